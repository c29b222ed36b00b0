import Derived.Test.YthgehdembghdaaaGreatJ16
import Derived.Test.YthgehdembghdaaaGreatXLawS
import Derived.Test.YthgehdembghdaaaGreatPx5
import Derived.StillTailTactics
import Derived.Test.YthgehdembghdaaaGreatPx0
import Derived.Test.YthgehdembghdaaaGreatXInto1
import Derived.Test.YthgehdembghdaaaGreatXMesh3
import Derived.BigRegion
import Derived.Test.YthgehdembghdaaaGreatXHeap1
import Derived.Test.YthgehdembghdaaaGreatJ11
namespace Go.Proofs.YthgehdembghdaaaGreat.P
open Go.RowKit Go.Proofs.YthgehdembghdaaaGreatW.PrintWords Go.Proofs.YthgehdembghdaaaGreatW.PrintLast Go.Proofs.YthgehdembghdaaaGreatW.PrintMore
open Go.Proofs.YthgehdembghdaaaGreat.Dist
set_option linter.unusedVariables false
set_option linter.unusedSimpArgs false
attribute [local go_sem] max2_int min2_int max_two min_two max_three min_three max_four min_four
structure InvR (W : Int) (C : List Int) (l : List Seed) (R D : List Int) : Prop where
 len : D.length = C.length
 ge : ∀ i : Nat, i < C.length → rd R i ≤ rd D i
 le : ∀ i : Nat, i < C.length → rd D i ≤ INF
 src : ∀ x, x ∈ l → rd D x.f0 ≤ x.f2
def RelR (W H : Int) (C D : List Int) (c : Int) (n : Int) : Prop := rd C c ≠ 255 → ∀ s, 0 ≤ s → s < n → ¬ OutE W H c s → rd C (nbS W c s) ≠ 255 → rd D c ≤ rd D (nbS W c s) + rd C (nbS W c s)
structure PassR (W H : Int) (C : List Int) (l : List Seed) (D0 D : List Int) (b : Bool) (c : Nat) : Prop where
 inv : InvR W C l (distOf W C l) D
 no : b = false → D = D0 ∧ ∀ c' : Nat, c' < c → RelR W H C D0 c' 4
 yes : b = true → sumTo (fun j => rd D (j : Int)) C.length < sumTo (fun j => rd D0 (j : Int)) C.length
structure PassS (W H : Int) (C : List Int) (l : List Seed) (D0 D : List Int) (b : Bool) (c s : Nat) : Prop where
 inv : InvR W C l (distOf W C l) D
 no : b = false → D = D0 ∧ (∀ c' : Nat, c' < c → RelR W H C D0 c' 4) ∧ RelR W H C D0 c s
 yes : b = true → sumTo (fun j => rd D (j : Int)) C.length < sumTo (fun j => rd D0 (j : Int)) C.length
section
variable {W H : Int} {C : List Int} {l : List Seed} {D0 D : List Int} {b : Bool} {c s : Nat}
def SeedI (W : Int) (C : List Int) (l : List Seed) (D : List Int) (i : Nat) : Prop := (∀ j : Nat, j < C.length → rd (distOf W C l) j ≤ rd D j ∧ rd D j ≤ INF) ∧ ∀ x, x ∈ l.take i → rd D x.f0 ≤ x.f2
end
structure SpW (w wr : World) (gb gd cd : Nat) (W H : Int) (At : Option Addr) (ct : Nat) (C D : List Int) : Prop where
 row : Kd.R (Kd.int .i64) 3 wr w.heap.size (fun _ => True) (.slice (some ⟨gd, 0, none⟩) C.length cd) D
 len : D.length = C.length
 base : w.heap.size ≤ gd
 box : wr.heap[gb]? = some (.cells #[.int .i64 W, .int .i64 H, .slice At C.length ct] 86 (0, 0))
 ne : gb ≠ gd
 below : Below w.heap.size w wr
section
variable {w wr w' : World} {gb gd cd : Nat} {W H : Int} {At : Option Addr} {ct : Nat} {C D : List Int}
end
end Go.Proofs.YthgehdembghdaaaGreat.P
namespace Go.Proofs.YthgehdembghdaaaGreat.P
noncomputable section
open Go.RowKit Go.Proofs.YthgehdembghdaaaGreatW.PrintWords Go.Proofs.YthgehdembghdaaaGreatW.PrintLast Go.Proofs.YthgehdembghdaaaGreatW.PrintMore
attribute [local go_sem] max2_int min2_int max_two min_two max_three min_three max_four min_four   -- for this text's walks alone
set_option linter.unusedVariables false
set_option linter.unusedSimpArgs false
end
end Go.Proofs.YthgehdembghdaaaGreat.P
namespace Go.Proofs.YthgehdembghdaaaGreat.P
noncomputable section
open Go.RowKit Go.Proofs.YthgehdembghdaaaGreatW.PrintWords Go.Proofs.YthgehdembghdaaaGreatW.PrintLast Go.Proofs.YthgehdembghdaaaGreatW.PrintMore
attribute [local go_sem] max2_int min2_int max_two min_two max_three min_three max_four min_four   -- for this text's walks alone
set_option linter.unusedVariables false
set_option linter.unusedSimpArgs false
end
end Go.Proofs.YthgehdembghdaaaGreat.P
namespace Go.Proofs.YthgehdembghdaaaGreat.P
open Go.RowKit Go.Proofs.YthgehdembghdaaaGreatW.PrintWords Go.Proofs.YthgehdembghdaaaGreatW.PrintLast Go.Proofs.YthgehdembghdaaaGreatW.PrintMore
open Go.Proofs.YthgehdembghdaaaGreat.Geo
set_option linter.unusedVariables false
set_option linter.unusedSimpArgs false
variable {W H : Int} {C : List Int}
theorem rOver (h : Dim W H) {c : Int} (h0 : 0 ≤ c) (h1 : c < W * H) {d : Int} (hd : 0 ≤ d ∧ d ≤ 3) (k : Nat) (hk : 10 ≤ k) : herdsmanref11_Over.f k W H c d = some (if OverS W H c d then nbS W c d else -1) := by
 unfold herdsmanref11_Over.f
 rw [refIn_some, Option.bind_some, decide_eq_true hd, if_pos rfl, rStep h h0 h1 hd k hk, Option.bind_some]
 by_cases q : OutE W H c d
 ·rw [if_pos q, if_pos (by omega), if_neg (fun r => r.1 q)]
 ·have r := nb_rng h h0 h1 hd q
  rw [if_neg q, if_neg (by omega), rSector h, if_pos r, Option.bind_some, rSector h, if_pos ⟨h0, h1⟩, Option.bind_some]
  by_cases e : sec W (nbS W c d) = sec W c
  ·rw [if_pos e, if_neg (fun r => r.2 e)]
  ·rw [if_neg e, if_pos ⟨q, e⟩]
theorem rOpen (h : MapOk W H C) (c : Int) : herdsmanref11_open.f W H C c = some (decide ((0 ≤ c ∧ c < W * H) ∧ rd C c ≠ 255)) := by
 have hl := h.len
 unfold herdsmanref11_open.f
 by_cases q0 : c ≥ 0
 ·by_cases q1 : c < (C.length : Int)
  ·rw [if_pos q0, if_pos q1, if_pos q0]
   by_cases e : rd C c = 255
   ·rw [e, decide_eq_false (fun r => r.2 rfl)]; rfl
   ·have : (rd C c != 255) = true := by rw [bne_iff_ne]; exact e
    rw [this, decide_eq_true ⟨⟨q0, by omega⟩, e⟩]
  ·rw [if_pos q0, if_neg q1, decide_eq_false (by omega)]
 ·rw [if_neg q0, decide_eq_false (by omega)]
theorem rIs_loop (h : MapOk W H C) {c : Int} (h0 : 0 ≤ c) (h1 : c < W * H) : ∀ (e d k : Nat), d + e = 4 → e + 20 < k → (∀ i : Nat, i < d → ¬ OverS W H c (i : Int)) → herdsmanref11_IsNode.l0 k c (d : Int) W H C = some (decide (edgeS W H c)) := by
 intro e
 induction e with
 | zero =>
  intro d k hd hk hn
  obtain ⟨k, rfl⟩ : ∃ q, k = q + 1 := ⟨k - 1, by omega⟩
  rw [herdsmanref11_IsNode.l0, if_neg (by omega), decide_eq_false]
  rw [edge_iff]
  rintro ⟨i, hi, ho⟩
  obtain ⟨j, rfl⟩ : ∃ j : Nat, i = j := ⟨i.toNat, by omega⟩
  exact hn j (by omega) ho
 | succ e ih =>
  intro d k hd hk hn
  obtain ⟨k, rfl⟩ : ∃ q, k = q + 1 := ⟨k - 1, by omega⟩
  rw [herdsmanref11_IsNode.l0, if_pos (by omega), rOver h.dim h0 h1 (by omega) k (by omega), Option.bind_some]
  by_cases q : OverS W H c (d : Int)
  ·have r := nb_rng h.dim h0 h1 (s := (d : Int)) (by omega) q.1
   rw [if_pos q, if_pos r.1, decide_eq_true (edge_of (by omega) q)]
  ·rw [if_neg q, if_neg (by omega), w64 (n := (d : Int) + 1) (by omega) (by omega), show (d : Int) + 1 = ((d + 1 : Nat) : Int) by omega]
   refine ih (d + 1) k (by omega) (by omega) (fun i hi => ?_)
   rcases Nat.lt_or_ge i d with c1 | c1
   ·exact hn i c1
   ·obtain rfl : i = d := by omega
    exact q
theorem rIsNode (h : MapOk W H C) (c : Int) (k : Nat) (hk : 30 ≤ k) : herdsmanref11_IsNode.f k W H C c = some (decide ((0 ≤ c ∧ c < W * H) ∧ edgeS W H c ∧ rd C c ≠ 255)) := by
 unfold herdsmanref11_IsNode.f
 rw [rOpen h, Option.bind_some]
 by_cases q : (0 ≤ c ∧ c < W * H) ∧ rd C c ≠ 255
 ·have hl := rIs_loop h q.1.1 q.1.2 4 0 k (by omega) (by omega) (fun i hi => absurd hi (by omega))
  rw [show ((0 : Nat) : Int) = 0 from rfl] at hl
  rw [decide_eq_true q, if_pos rfl, hl]
  exact congrArg some (decide_eq_decide.2 ⟨fun r => ⟨q.1, r, q.2⟩, fun r => r.2.1⟩)
 ·rw [decide_eq_false q, if_neg (by decide), decide_eq_false (fun r => q ⟨r.1, r.2.2⟩)]
def nodeS (W H : Int) (C : List Int) (c : Int) : Prop := (0 ≤ c ∧ c < W * H) ∧ edgeS W H c ∧ rd C c ≠ 255
instance (W H : Int) (C : List Int) (c : Int) : Decidable (nodeS W H C c) := inferInstanceAs (Decidable (_ ∧ _))
end Go.Proofs.YthgehdembghdaaaGreat.P
namespace Go.Proofs.YthgehdembghdaaaGreat.P
open Go.RowKit Go.Proofs.YthgehdembghdaaaGreatW.PrintWords Go.Proofs.YthgehdembghdaaaGreatW.PrintLast Go.Proofs.YthgehdembghdaaaGreatW.PrintMore
open Go.Proofs.YthgehdembghdaaaGreat.Geo Go.Proofs.YthgehdembghdaaaGreat.Dist
set_option linter.unusedVariables false
set_option linter.unusedSimpArgs false
variable {w wr w2 : World} {W H : Int} {C d : List Int} {A : Addr} {cp b2 db : Nat}
theorem run_ints (n : Nat) (hn : n ≤ 1000000000) (W : World) : (Instr.makeSlice 36 (.int .i64 (n : Int)) (.int .i64 (n : Int))).run Tryz.prog W = .ok (.slice (some ⟨W.heap.size, 0, none⟩) n n) (W.alloc (.cells (madeCells #[.int .i64 0] n) 3)) := by
 obtain ⟨i0, hi, hzz⟩ := Option.map_eq_some_iff.1 info3
 simp only [Prod.mk.injEq] at hzz
 obtain ⟨hz0, hz1, hz2⟩ := hzz
 have := run_make (P := Tryz.prog) W 36 3 i0 (.int .i64 0) Tryz.underlying36 hi hz0 .i64 .i64 (n : Int) (n : Int) (by omega) (by omega) (by rw [hz2]; omega) (by omega)
 rw [hz1] at this
 simp only [Int.toNat_natCast, Nat.mul_one] at this
 exact this
theorem rowI_made (W : World) (n : Nat) : RowIn encI 1 3 W.heap.size n (List.replicate n (0 : Int)).toArray (W.alloc (.cells (madeCells #[.int .i64 0] n) 3)) := by
 refine ⟨_, heap_alloc_new _ _, by rw [size_madeCells, Nat.mul_one], by simp, fun j hj c hc => ?_⟩
 have hjn : j < n := by simpa using hj
 have hc0 : c = 0 := by omega
 subst hc0
 rw [Nat.mul_one, Nat.add_zero, getElem!_pos _ j (by simpa using hjn)]
 have e : j % 1 = 0 := Nat.mod_one j
 simp [madeCells, encI, hjn, e]
structure FM (w wr : World) (b2 : Nat) (W H : Int) (A : Addr) (cp : Nat) (C : List Int) (db : Nat) (d : List Int) : Prop where
 box : wr.heap[b2]? = some (.cells #[.int .i64 W, .int .i64 H, .slice (some A) C.length cp] 26 (0, 0))
 row : RowIn encI 1 3 db d.length d.toArray wr
 low : w.heap.size ≤ b2 ∧ w.heap.size ≤ db
 below : Below w.heap.size w wr
theorem FM.go (h : FM w wr b2 W H A cp C db d) (hb : Below wr.heap.size wr w2) : FM w w2 b2 W H A cp C db d := by
 obtain ⟨cs, hcs⟩ := h.row.typ
 exact ⟨blk_step h.box hb, h.row.heap (hb.block _ (blk_lt hcs)), h.low, below_step h.below hb⟩
theorem FM.drewN (h : FM w wr b2 W H A cp C db d) (q : Nat) : FM w (wr.drewN q) b2 W H A cp C db d := h.go (pw_below_drewN (Below.refl _ _) q)
theorem FM.cells (h : FM w wr b2 W H A cp C db d) : wr.cell? ⟨b2, 0, none⟩ = some (.int .i64 W) ∧ wr.cell? ⟨b2, 1, none⟩ = some (.int .i64 H) ∧ wr.cell? ⟨b2, 2, none⟩ = some (.slice (some A) C.length cp) := ⟨cell_blk h.box rfl, cell_blk h.box rfl, cell_blk h.box rfl⟩
theorem FM.at_ (h : FM w wr b2 W H A cp C db d) {i : Nat} (hi : i < d.length) : wr.cell? ⟨db, i, none⟩ = some (.int .i64 (rd d (i : Int))) ∧ wr.frozen? ⟨db, i, none⟩ = false := by
 have hsz : i < d.toArray.size := by simpa using hi
 have := h.row.cell hsz (c := 0) (by omega) (u := .int .i64 (d.getD i default)) (by rw [getD_toArray]; rfl)
 rw [Nat.mul_one, Nat.add_zero] at this
 refine ⟨?_, h.row.free _⟩
 rw [this]
 unfold rd
 rw [Int.toNat_natCast]
 rfl
theorem FM.put (h : FM w wr b2 W H A cp C db d) {i : Nat} (hi : i < d.length) (k : Int) : FM w (wr.setCell ⟨db, i, none⟩ (.int .i64 k)) b2 W H A cp C db (d.set i k) := by
 have hsz : i < d.toArray.size := by simpa using hi
 have r1 := RowIn.store1 h.row hsz (c := 0) (by omega) (.int .i64 k) k (by rw [getD_toArray]; rfl) (by rw [getD_toArray]; rfl)
 rw [Nat.mul_one, Nat.add_zero, show d.toArray.setIfInBounds i k = (d.set i k).toArray by simp] at r1
 obtain ⟨cs, hcs⟩ := h.row.typ
 exact ⟨blk_far h.box (p := ⟨db, i, none⟩) (blk_ne h.box hcs (by decide)) _, by rw [List.length_set]; exact r1, h.low, h.below.setCell h.low.2 _⟩
set_option maxRecDepth 1000000 in
set_option maxHeartbeats 8000000 in
theorem flat_calls (hok : MapOk W H C) (hr : Kd.C (Kd.int .u8) w (some A) C.length C) (hcp : C.length ≤ cp) {t : Int} {D : List Int} (hD : FlatD W H C t D) : Calls Tryz.prog 58 #[.agg #[.int .i64 W, .int .i64 H, .slice (some A) C.length cp], .int .i64 t] w fun e w' => ∃ db, e = .returned (.slice (some ⟨db, 0, none⟩) C.length C.length) ∧ RowIn encI 1 3 db C.length D.toArray w' ∧ w.heap.size ≤ db ∧ Below w.heap.size w w' := by
 have HR := Aside0.mk hr
 have HCP := Aside0.mk hcp
 have HOK := Aside0.mk hok
 have HD := Aside0.mk hD
 have hcl : 1 ≤ C.length ∧ C.length ≤ 1048576 := by have := hok.len; have := wh_le hok.dim; omega
 have HCL := Aside0.mk hcl
 have hmk := run_ints C.length (by omega)
 clear hr hcp hok hD
 go_enter Tryz.func58, Tryz.ntmps58
 go_upto_region 3 with fail
 have hF : Aside0 (FM w ((w.alloc (.cells #[.int .i64 W, .int .i64 H, .slice (some A) C.length cp] 26)).alloc (.cells (madeCells #[.int .i64 0] C.length) 3)) w.heap.size W H A cp C (w.heap.size + 1) (List.replicate C.length 0)) := ⟨by
  have h1 := heap_alloc_new w (.cells #[.int .i64 W, .int .i64 H, .slice (some A) C.length cp] 26)
  have h2 := rowI_made (w.alloc (.cells #[.int .i64 W, .int .i64 H, .slice (some A) C.length cp] 26)) C.length
  rw [World.size_alloc] at h2
  exact ⟨(heap_alloc_old _ _ (blk_lt h1)).trans h1, by rw [List.length_replicate]; exact h2, ⟨Nat.le_refl _, by omega⟩, below_alloc (below_alloc (Below.refl _ _) _) _⟩⟩
 have HBD : Aside0 (w.heap.size + 1 = w.heap.size + 1) := ⟨rfl⟩
 generalize w.heap.size + 1 = db at *
 generalize hb2 : w.heap.size = b2 at hF ⊢
 generalize (w.alloc (.cells #[.int .i64 W, .int .i64 H, .slice (some A) C.length cp] 26)).alloc (.cells (madeCells #[.int .i64 0] C.length) 3) = w1 at *
 clear hmk hcl HBD hb2
 go_wp2_with fail
 go_loopg [7] C.length (fun gg v7 wr => ∃ (i : Nat) (d : List Int), v7 = .int .i64 (i : Int) ∧ i ≤ C.length ∧ C.length - i ≤ gg ∧ d.length = C.length ∧ Aside0 (FM w wr b2 W H A cp C db d) ∧ Aside0 (∀ j : Nat, j < i → rd d (j : Int) = INF))
 case atStart => exact ⟨0, _, rfl, Nat.zero_le _, Nat.le_refl _, by simp, hF, ⟨fun j hj => absurd hj (Nat.not_lt_zero _)⟩⟩
 case round =>
  clear hF
  obtain ⟨i, d, rfl, hi, hgg, hdl, HF, HV⟩ := hrel
  by_cases hlt : i < C.length
  ·have d1 : (i : Int) < (C.length : Int) := by omega
   have e1 : (0 : Int) ≤ (i : Int) := by omega
   obtain ⟨q1, q2⟩ := HF.out.at_ (i := i) (by omega)
   have HI := Aside0.mk (And.intro hi (And.intro hgg (And.intro hlt hdl)))
   clear hi hgg hlt hdl
   go_wp2_with fail
   go_roundg (C.length - (i + 1))
   case measure => have := HI.out; omega
   case rel =>
    have hh := HI.out
    have hl := HCL.out
    refine ⟨i + 1, d.set i INF, by first | rfl | (rw [w64 (n := (i : Int) + 1) (by omega) (by omega)]; rfl), by omega, Nat.le_refl _, by rw [List.length_set]; omega, ⟨HF.out.put (by omega) INF⟩, ⟨fun j hj => ?_⟩⟩
    rw [rd_putL (by omega)]
    split
    ·rfl
    ·exact HV.out j (by omega)
  ·obtain rfl : i = C.length := by omega
   obtain rfl : d = List.replicate C.length INF := by
    apply List.ext_getElem (by simp [hdl])
    intro j h1 h2
    have := HV.out j (by omega)
    rw [rd_get d h1] at this
    rw [this, List.getElem_replicate]
   have d1 : decide (((C.length : Nat) : Int) < (C.length : Int)) = false := by simp
   obtain ⟨m0, m1, m2⟩ := HF.out.cells
   have hop := rOpen HOK.out t
   clear hi hgg hlt hdl HV
   have htc := HD.out.goal
   by_cases ho : rd C t = 255
   ·have dt : decide ((0 ≤ t ∧ t < W * H) ∧ rd C t ≠ 255) = false := decide_eq_false (fun q => q.2 ho)
    rw [dt] at hop
    have HOP := Aside0.mk hop
    have HDD := Aside0.mk (flat_wall HD.out ho)
    clear hop ho htc dt
    go_wp2_with (go_at_call 77; refine (herdsmanref11_open.calls W H (some A) cp C t _ _ (Kd.C_below HR.out HF.out.below) HCP.out HOP.out).mono ?_; rintro e w2 ⟨rfl, hb⟩; have HF2 := Aside0.mk (HF.out.go hb); clear hb)
    go_ret
    have e := HDD.out
    subst e
    have hr2 := HF2.out.row
    rw [List.length_replicate] at hr2
    exact ⟨db, rfl, hr2, HF2.out.low.2, HF2.out.below⟩
   ·have dt : decide ((0 ≤ t ∧ t < W * H) ∧ rd C t ≠ 255) = true := decide_eq_true ⟨htc, ho⟩
    rw [dt] at hop
    have HOP := Aside0.mk hop
    obtain ⟨tn, htn⟩ : ∃ tn : Nat, t = tn := ⟨t.toNat, by omega⟩
    have htl : tn < C.length := by have := HOK.out.len; omega
    have HI0 := Aside0.mk (FlI.first HD.out ho htn)
    have HTN := Aside0.mk (And.intro htn htl)
    have HO := Aside0.mk ho
    have e1 : (0 : Int) ≤ t := htc.1
    have e2 : t < (C.length : Int) := by omega
    have e3 : t.toNat = tn := by omega
    clear hop ho htc dt htn
    go_upto_region 9 with (go_at_call 77; refine (herdsmanref11_open.calls W H (some A) cp C t _ _ (Kd.C_below HR.out HF.out.below) HCP.out HOP.out).mono ?_; rintro e w2 ⟨rfl, hb⟩; have HF2 := Aside0.mk (HF.out.go hb); clear hb)
    obtain ⟨q1, q2⟩ := HF2.out.at_ (i := tn) (by simp; exact htl)
    clear m0 m1 m2 HF
    go_upto_region 10 with fail
    have HF3 : Aside0 (FM w (w2.setCell ⟨db, tn, none⟩ (.int .i64 0)) b2 W H A cp C db ((List.replicate C.length INF).set tn 0)) := ⟨HF2.out.put (by simp; exact htl) 0⟩
    clear q1 q2 e1 e2 e3 HF2 HOP
    generalize w2.setCell ⟨db, tn, none⟩ (.int .i64 0) = w3 at *
    obtain ⟨S0, hS0⟩ : ∃ S0, S0 = (sumR ((List.replicate C.length INF).set tn 0) + 1).toNat := ⟨_, rfl⟩
    go_wp2_with fail
    go_loopg [8] S0 (fun gg v8 wr => ∃ (ag : Bool) (d : List Int), v8 = .bool ag ∧ Aside0 (FM w wr b2 W H A cp C db d) ∧ Aside0 (FlI W H C t D d ag C.length (-1) 0) ∧ Aside0 (ag = true → sumR d + 1 ≤ gg))
    case atStart => exact ⟨true, _, rfl, HF3, ⟨⟨HI0.out.len, HI0.out.rng, HI0.out.goal, fun q => by cases q⟩⟩, ⟨fun _ => by have := HI0.out.sum HD.out; omega⟩⟩
    case round =>
     clear HF3 HI0 hS0
     obtain ⟨ag, d, rfl, HF, HI, HQ⟩ := hrel
     cases ag with
     | false =>
      go_wp2_with fail
      go_ret
      have e := HI.out.fin HD.out (by rw [HI.out.len]; exact Nat.le_refl _)
      subst e
      have hr2 := HF.out.row
      rw [HI.out.len] at hr2
      exact ⟨db, rfl, hr2, HF.out.low.2, HF.out.below⟩
     | true =>
      obtain ⟨G0, hG0⟩ : ∃ G0, G0 = gk := ⟨gk, rfl⟩
      have HG0 := Aside0.mk hG0
      have HQ0 : Aside0 (sumR d + 1 ≤ G0) := ⟨by have := HQ.out rfl; omega⟩
      have HI1 : Aside0 (FlI W H C t D d false 0 (-1) 0) := ⟨HI.out.pass⟩
      have iw0 : IntKind.i64.wrap (2 * (C.length : Int)) = 2 * (C.length : Int) := by have := HCL.out; rw [IntKind.wrap_i64]; omega
      clear hG0 HI HQ
      go_wp2_with fail
      go_loopg [8, 9] (2 * C.length) (fun gg v8 v9 wr => ∃ (ag : Bool) (i : Nat) (d : List Int), v8 = .bool ag ∧ v9 = .int .i64 (i : Int) ∧ i ≤ 2 * C.length ∧ 2 * C.length - i ≤ gg ∧ Aside0 (FM w wr b2 W H A cp C db d) ∧ Aside0 (FlI W H C t D d ag i (-1) 0) ∧ Aside0 (sumR d + (if ag then 1 else 0) + 1 ≤ G0))
      case atStart => exact ⟨false, 0, d, rfl, rfl, Nat.zero_le _, by omega, HF, HI1, ⟨by have := HQ0.out; simp; omega⟩⟩
      case round =>
       clear HF HI1 HQ0
       obtain ⟨ag, i, d, rfl, rfl, hi, hgg, HF, HI, HQ⟩ := hrel
       by_cases hlt : i < 2 * C.length
       ·obtain ⟨c, hc, hcl, hci⟩ : ∃ c : Nat, (c = if i < C.length then i else 2 * C.length - 1 - i) ∧ c < C.length ∧ (i < C.length → c = i) := ⟨_, rfl, by split <;> omega, fun q => by rw [if_pos q]⟩
        have d1 : (i : Int) < 2 * (C.length : Int) := by omega
        have HJ := Aside0.mk (And.intro hi (And.intro hgg (And.intro hlt (And.intro hcl hci))))
        have HIc : Aside0 (FlI W H C t D d ag i (c : Int) 0) := ⟨HI.out.turn (c : Int)⟩
        have iw1 : IntKind.i64.wrap (2 * (C.length : Int) - 1) = 2 * (C.length : Int) - 1 := by have := HCL.out; rw [IntKind.wrap_i64]; omega
        clear HI
        go_upto_if 44 with fail
        go_cut [10] (fun v10 wc => v10 = .int .i64 (c : Int) ∧ Aside0 (FM w wc b2 W H A cp C db d))
        case first =>
         by_cases hn : i < C.length
         ·have d2 : decide ((C.length : Int) ≤ (i : Int)) = false := decide_eq_false (by omega)
          have d3 : decide (C.length ≤ i) = false := decide_eq_false (by omega)
          rw [if_pos hn] at hc
          go_wp2_with fail
          go_meet
          exact ⟨by rw [hc], HF⟩
         ·have d2 : (C.length : Int) ≤ (i : Int) := by omega
          have d3 : C.length ≤ i := by omega
          rw [if_neg hn] at hc
          have iw2 : IntKind.i64.wrap (2 * (C.length : Int) - 1 - (i : Int)) = (c : Int) := by have := HCL.out; rw [IntKind.wrap_i64]; omega
          go_wp2_with fail
          go_meet
          exact ⟨by first | rfl | rw [hc], HF⟩
        case rest =>
         obtain ⟨rfl, HFn⟩ := hcut
         clear HF hc iw1 d1 hi hgg hlt hci hcl
         have hcl := HJ.out.2.2.2.1
         go_wp2_with fail
         go_loopg [8, 11] 4 (fun gg v8 v11 wr => ∃ (ag : Bool) (s : Nat) (d : List Int), v8 = .bool ag ∧ v11 = .int .i64 (s : Int) ∧ s ≤ 4 ∧ 4 - s ≤ gg ∧ Aside0 (FM w wr b2 W H A cp C db d) ∧ Aside0 (FlI W H C t D d ag i (c : Int) (s : Int)) ∧ Aside0 (sumR d + (if ag then 1 else 0) + 1 ≤ G0))
         case atStart => exact ⟨ag, 0, d, rfl, rfl, by omega, by omega, HFn, HIc, HQ⟩
         case round =>
          clear HFn HIc HQ
          obtain ⟨ag, s, d, rfl, rfl, hs, hgg, HF, HI, HQ⟩ := hrel
          have hdl := HI.out.len
          have hML := HOK.out.len
          obtain ⟨adC, hAC, hx⟩ := Kd.at_int (Kd.C_below HR.out HF.out.below) (c : Int) (by omega) (by omega)
          have hAC' : A = adC := Option.some.inj hAC
          subst hAC'
          rw [Int.toNat_natCast] at hx
          obtain ⟨m0, m1, m2⟩ := HF.out.cells
          have e1 : (0 : Int) ≤ (c : Int) := by omega
          have e2 : (c : Int) < (C.length : Int) := by omega
          obtain ⟨vc, hvc⟩ : ∃ vc, vc = rd C (c : Int) := ⟨_, rfl⟩
          rw [← hvc] at hx
          by_cases hgo : s < 4 ∧ vc ≠ 255
          ·have d1 : (s : Int) ≤ 3 := by omega
           have d2 : (vc != 255) = true := by rw [bne_iff_ne]; exact hgo.2
           have hss : 0 ≤ (s : Int) ∧ (s : Int) ≤ 3 := by omega
           have HS := Aside0.mk (And.intro hs (And.intro hgg (And.intro hgo hss)))
           have hst := rStep HOK.out.dim (c := (c : Int)) (by omega) (by omega) hss 10 (Nat.le_refl _)
           by_cases hout : OutE W H (c : Int) (s : Int)
           ·rw [if_pos hout] at hst
            have HST := Aside0.mk hst
            have HI2 : Aside0 (FlI W H C t D d ag i (c : Int) ((s : Int) + 1)) := ⟨HI.out.skip (fun _ q => absurd hout q)⟩
            clear hst hout hss hgo hs hgg hdl hML
            go_upto_region 23 with (go_at_call 64; refine (herdsmanref1_Step.calls 10 _ _ _ _ _ _ HST.out).mono ?_; rintro e w4 ⟨rfl, hd⟩; have HF4 := Aside0.mk (HF.out.go hd.below); clear hd)
            go_quiet (fail)
            rename_i nq
            have HF5 := Aside0.mk (HF4.out.drewN nq)
            go_wp2_with fail
            go_roundg (4 - (s + 1))
            case measure => have := HS.out; omega
            case rel =>
             have hh := HS.out
             exact ⟨ag, s + 1, d, rfl, by first | rfl | (rw [w64 (n := (s : Int) + 1) (by omega) (by omega)]; rfl), by omega, Nat.le_refl _, HF5, HI2, HQ⟩
           ·rw [if_neg hout] at hst
            have nr := nb_rng HOK.out.dim (c := (c : Int)) (by omega) (by omega) hss hout
            obtain ⟨nn, hnn⟩ : ∃ nn : Nat, nbS W (c : Int) (s : Int) = nn := ⟨(nbS W (c : Int) (s : Int)).toNat, by omega⟩
            rw [hnn] at hst nr
            have hnl : nn < C.length := by omega
            have HST := Aside0.mk hst
            have HN := Aside0.mk (And.intro hnn (And.intro hout hnl))
            clear hst hout hss hgo hs hgg nr hnn hdl hML
            go_upto_region 23 with (go_at_call 64; refine (herdsmanref1_Step.calls 10 _ _ _ _ _ _ HST.out).mono ?_; rintro e w4 ⟨rfl, hd⟩; have HF4 := Aside0.mk (HF.out.go hd.below); clear hd)
            have hcw := HI.out.len
            obtain ⟨adN, hAN, hxn⟩ := Kd.at_int (Kd.C_below HR.out HF4.out.below) (nn : Int) (by omega) (by omega)
            have hAN' : A = adN := Option.some.inj hAN
            subst hAN'
            rw [Int.toNat_natCast] at hxn
            obtain ⟨n0, n1, n2⟩ := HF4.out.cells
            obtain ⟨p1, p2⟩ := HF4.out.at_ (i := nn) (by omega)
            obtain ⟨r1, r2⟩ := HF4.out.at_ (i := c) (by omega)
            obtain ⟨vn, hvn⟩ : ∃ vn, vn = rd C (nn : Int) := ⟨_, rfl⟩
            obtain ⟨dn, hdn⟩ : ∃ dn, dn = rd d (nn : Int) := ⟨_, rfl⟩
            obtain ⟨dc, hdc⟩ : ∃ dc, dc = rd d (c : Int) := ⟨_, rfl⟩
            rw [← hvn] at hxn
            rw [← hdn] at p1
            rw [← hdc] at r1
            have hvb := rd_cost HOK.out (c := (nn : Int)) (by omega) (by have := HOK.out.len; omega)
            have hdr := HI.out.cell HD.out (c := (nn : Int)) ⟨by omega, by have := HOK.out.len; omega⟩
            rw [← hvn] at hvb
            rw [← hdn] at hdr
            have HV := Aside0.mk (And.intro hvn (And.intro hdn (And.intro hdc (And.intro hvc (And.intro hvb hdr)))))
            have e5 : (0 : Int) ≤ (nn : Int) := by omega
            have e6 : (nn : Int) < (C.length : Int) := by omega
            have iv : IntKind.i64.wrap vn = vn := by rw [IntKind.wrap_i64]; omega
            have ia : IntKind.i64.wrap (dn + vn) = dn + vn := by have h1 : dn ≤ 1099511627776 := hdr.2.2; rw [IntKind.wrap_i64]; omega
            clear hvn hdn hdc hvb hdr hcw m0 m1 m2 hx hvc
            by_cases hw : vn = 255
            ·have d3 : (vn != 255) = false := by rw [hw]; rfl
             have HI2 : Aside0 (FlI W H C t D d ag i (c : Int) ((s : Int) + 1)) := ⟨HI.out.skip (fun _ _ q => absurd (by rw [HN.out.1, ← HV.out.1]; exact hw) q)⟩
             clear hw
             go_quiet (fail)
             rename_i nq
             have HF5 := Aside0.mk (HF4.out.drewN nq)
             go_wp2_with fail
             go_roundg (4 - (s + 1))
             case measure => have := HS.out; omega
             case rel =>
              have hh := HS.out
              exact ⟨ag, s + 1, d, rfl, by first | rfl | (rw [w64 (n := (s : Int) + 1) (by omega) (by omega)]; rfl), by omega, Nat.le_refl _, HF5, HI2, HQ⟩
            ·have d3 : (vn != 255) = true := by rw [bne_iff_ne]; exact hw
             have HW := Aside0.mk hw
             clear hw
             by_cases hf : dn < INF
             ·have d4 : dn < 1099511627776 := hf
              by_cases hlt : dn + vn < dc
              ·have d5 : dn + vn < dc := hlt
               have hls := HI.out.less HD.out (cn := c) rfl hcl HS.out.2.2.2 (by rw [← HV.out.2.2.2.1]; exact HS.out.2.2.1.2) HN.out.2.1 (by rw [HN.out.1, ← HV.out.1]; exact HW.out) (by rw [HN.out.1, ← HV.out.1, ← HV.out.2.1, ← HV.out.2.2.1]; exact hlt)
               rw [HN.out.1, ← HV.out.1, ← HV.out.2.1] at hls
               have HLS := Aside0.mk hls
               clear hls hlt hf
               go_quiet (fail)
               rename_i nq
               have HF5 := Aside0.mk (HF4.out.drewN nq)
               have hxn5 : (w4.drewN nq).cell? (A.add nn) = some (.int .u8 vn) := hxn
               clear hxn p1 r1 n0 n1 n2 p2 r2
               generalize w4.drewN nq = w5 at *
               obtain ⟨n0, n1, n2⟩ := HF5.out.cells
               obtain ⟨p1, p2⟩ := HF5.out.at_ (i := nn) (by have := HI.out.len; omega)
               obtain ⟨r1, r2⟩ := HF5.out.at_ (i := c) (by have := HI.out.len; omega)
               rw [← HV.out.2.1] at p1
               rw [← HV.out.2.2.1] at r1
               go_upto_region 24 with fail
               go_region
               obtain ⟨w6, hw6⟩ : ∃ w6, w6 = (w5.setCell ⟨db, c, none⟩ (.int .i64 (dn + vn))).drew := ⟨_, rfl⟩
               rw [← hw6]
               have HF6 : Aside0 (FM w w6 b2 W H A cp C db (d.set c (dn + vn))) := ⟨by rw [hw6]; exact (HF5.out.put (by have := HI.out.len; omega) (dn + vn)).drewN 1⟩
               clear hw6
               go_wp2_with fail
               go_roundg (4 - (s + 1))
               case measure => have := HS.out; omega
               case rel =>
                have hh := HS.out
                have hq := HQ.out
                have hl2 := HLS.out.2
                exact ⟨true, s + 1, _, rfl, by first | rfl | (rw [w64 (n := (s : Int) + 1) (by omega) (by omega)]; rfl), by omega, Nat.le_refl _, HF6, ⟨HLS.out.1⟩, ⟨by cases ag <;> simp at hq ⊢ <;> omega⟩⟩
              ·have d5 : decide (dn + vn < dc) = false := decide_eq_false hlt
               have HI2 : Aside0 (FlI W H C t D d ag i (c : Int) ((s : Int) + 1)) := ⟨HI.out.skip (fun _ _ _ _ => by rw [HN.out.1, ← HV.out.1, ← HV.out.2.1, ← HV.out.2.2.1]; omega)⟩
               clear hlt hf
               go_quiet (fail)
               rename_i nq
               have HF5 := Aside0.mk (HF4.out.drewN nq)
               go_wp2_with fail
               go_roundg (4 - (s + 1))
               case measure => have := HS.out; omega
               case rel =>
                have hh := HS.out
                exact ⟨ag, s + 1, d, rfl, by first | rfl | (rw [w64 (n := (s : Int) + 1) (by omega) (by omega)]; rfl), by omega, Nat.le_refl _, HF5, HI2, HQ⟩
             ·have d4 : decide (dn < 1099511627776) = false := decide_eq_false hf
              have HI2 : Aside0 (FlI W H C t D d ag i (c : Int) ((s : Int) + 1)) := ⟨HI.out.skip (fun _ _ _ q => absurd (by rw [HN.out.1, ← HV.out.2.1] at q; exact q) hf)⟩
              clear hf
              go_quiet (fail)
              rename_i nq
              have HF5 := Aside0.mk (HF4.out.drewN nq)
              go_wp2_with fail
              go_roundg (4 - (s + 1))
              case measure => have := HS.out; omega
              case rel =>
               have hh := HS.out
               exact ⟨ag, s + 1, d, rfl, by first | rfl | (rw [w64 (n := (s : Int) + 1) (by omega) (by omega)]; rfl), by omega, Nat.le_refl _, HF5, HI2, HQ⟩
          ·have HI2 : Aside0 (FlI W H C t D d ag (i + 1) (-1) 0) := ⟨HI.out.over (fun q => by have := HJ.out.2.2.2.2 (by omega); omega) (by
            by_cases h4 : s = 4
            ·exact .inr (by omega)
            ·refine .inl ?_
             rw [← hvc]
             by_cases hv : vc = 255
             ·exact hv
             ·exact absurd ⟨by omega, hv⟩ hgo)⟩
           have hjj := HJ.out
           by_cases h4 : s = 4
           ·subst h4
            clear hgo hs hgg hdl hML hvc
            go_wp2_with fail
            go_roundg (2 * C.length - (i + 1))
            case measure => omega
            case rel =>
             have hl := HCL.out
             exact ⟨ag, i + 1, d, rfl, by first | rfl | (rw [w64 (n := (i : Int) + 1) (by omega) (by omega)]; rfl), by omega, Nat.le_refl _, HF, HI2, HQ⟩
           ·have d1 : (s : Int) ≤ 3 := by omega
            have hv : vc = 255 := by
             by_cases hv : vc = 255
             ·exact hv
             ·exact absurd ⟨by omega, hv⟩ hgo
            have d2 : (vc != 255) = false := by rw [hv]; rfl
            clear hgo hs hgg hdl hML hvc hv
            go_wp2_with fail
            go_roundg (2 * C.length - (i + 1))
            case measure => omega
            case rel =>
             have hl := HCL.out
             exact ⟨ag, i + 1, d, rfl, by first | rfl | (rw [w64 (n := (i : Int) + 1) (by omega) (by omega)]; rfl), by omega, Nat.le_refl _, HF, HI2, HQ⟩
       ·obtain rfl : i = 2 * C.length := by omega
        have d1 : decide (((2 * C.length : Nat) : Int) < 2 * (C.length : Int)) = false := decide_eq_false (by omega)
        have HI2 : Aside0 (FlI W H C t D d ag C.length (-1) 0) := ⟨⟨HI.out.len, HI.out.rng, HI.out.goal, fun q => ⟨fun c hc hci => (HI.out.opt q).1 c hc (by omega), (HI.out.opt q).2⟩⟩⟩
        have hsn := HI.out.sum HD.out
        have hq := HQ.out
        have hg0 := HG0.out
        clear hi hgg hlt HI
        go_wp2_with fail
        go_roundg (if ag = true then sumR d + 1 else 0).toNat
        case measure => cases ag <;> simp at hq ⊢ <;> omega
        case rel => exact ⟨ag, d, rfl, HF, HI2, ⟨fun q => by rw [if_pos q]; omega⟩⟩
end Go.Proofs.YthgehdembghdaaaGreat.P
namespace Go.Proofs.YthgehdembghdaaaGreat.P
open Go.RowKit Go.Proofs.YthgehdembghdaaaGreatW.PrintWords Go.Proofs.YthgehdembghdaaaGreatW.PrintLast Go.Proofs.YthgehdembghdaaaGreatW.PrintMore
attribute [local go_sem] max2_int min2_int max_two min_two max_three min_three max_four min_four   -- for this text's walks alone
set_option linter.unusedVariables false
set_option linter.unusedSimpArgs false
end Go.Proofs.YthgehdembghdaaaGreat.P
namespace Go.Proofs.YthgehdembghdaaaGreat.P
open Go.RowKit Go.Proofs.YthgehdembghdaaaGreatW.PrintWords Go.Proofs.YthgehdembghdaaaGreatW.PrintLast Go.Proofs.YthgehdembghdaaaGreatW.PrintMore
attribute [local go_sem] max2_int min2_int max_two min_two max_three min_three max_four min_four   -- for this text's walks alone
set_option linter.unusedVariables false
set_option linter.unusedSimpArgs false
def heap_entry_less.f (a0_0 : Int) (a0_1 : Int) (a1_0 : Int) (a1_1 : Int) : Option (Bool) := if a0_0 < a1_0 then (some true) else (if a0_0 = a1_0 then (some (decide (a0_1 < a1_1))) else (some false))
set_option maxHeartbeats 8000000 in
set_option maxRecDepth 100000 in
theorem heap_entry_less.calls (a0_0 : Int) (a0_1 : Int) (a1_0 : Int) (a1_1 : Int) (r : Bool) (w : World) (h : heap_entry_less.f a0_0 a0_1 a1_0 a1_1 = some r) :
  Calls Tryz.prog 164 #[.agg #[.int .i64 a0_0, .int .i64 a0_1], .agg #[.int .i64 a1_0, .int .i64 a1_1]] w fun e w' => e = .returned (.bool r) ∧ Below w.heap.size w w' := by
 have hu181 := Tryz.underlying181
 have HB := Aside0.mk (Below.refl w.heap.size w)
 have H : (if a0_0 < a1_0 then (some true) else (if a0_0 = a1_0 then (some (decide (a0_1 < a1_1))) else (some false))) = some r := h
 clear h
 by_cases c3 : a0_0 < a1_0
 ·rw [if_pos c3] at H
  have c3b0 : decide (a0_0 < a1_0) = true := decide_eq_true c3
  clear c3
  obtain rfl := Option.some.inj H
  go_enter Tryz.func164, Tryz.ntmps164
  go_wp2_with (first | ((with_reducible refine gate_dst (N := 2) rfl ?_); refine box_event ?hg (N := 2) ?hd (cs := #[.int .i64 a0_0, .int .i64 a0_1]) (t := 181) ?hr ?_; (case hd => rfl); (case hg => rfl); (case hr => first | (go_simp; done) | (go_simp; rfl)); intro gb378 hg w4 hbox hb; have n0_ := Aside0.mk (below_step (by repeat (first | (with_reducible first | exact HB.out | apply below_alloc | apply pw_below_drewN | apply below_drew1) | exact HB.out)) hb); have n1_ := Aside0.mk (hbox); have n2_ := Aside0.mk ((by rw [hg]; exact (below_size (by repeat (first | (with_reducible first | exact HB.out | apply below_alloc | apply pw_below_drewN | apply below_drew1) | exact HB.out))) : w.heap.size ≤ gb378)); have n3_ := Aside0.mk ((by rw [hg]; exact (below_size (by repeat (first | (with_reducible first | exact HB.out | apply below_alloc | apply pw_below_drewN | apply below_drew1) | exact HB.out))) : w.heap.size ≤ gb378)); clear HB; have HB := n0_; have BK378 := n1_; have GW378 := n2_; have GE378 := n3_; clear n0_ n1_ n2_ n3_; clear hb hbox hg) | ((with_reducible refine gate_dst (N := 3) rfl ?_); refine box_event ?hg (N := 3) ?hd (cs := #[.int .i64 a1_0, .int .i64 a1_1]) (t := 181) ?hr ?_; (case hd => rfl); (case hg => rfl); (case hr => first | (go_simp; done) | (go_simp; rfl)); intro gb379 hg w5 hbox hb; have n0_ := Aside0.mk (blk_below (g := gb378) (o := .cells #[.int .i64 a0_0, .int .i64 a0_1] 181 (0, 0)) (by (with_reducible repeat (first | refine blk_drewN ?_ _ | refine blk_drew ?_ | refine blk_alloc ?_ _)); exact BK378.out) hb); have n1_ := Aside0.mk (below_step (by repeat (first | (with_reducible first | exact HB.out | apply below_alloc | apply pw_below_drewN | apply below_drew1 | refine below_set ?_ GE378.out) | exact HB.out)) hb); have n2_ := Aside0.mk (hbox); have n3_ := Aside0.mk ((by rw [hg]; exact (below_size (by repeat (first | (with_reducible first | exact HB.out | apply below_alloc | apply pw_below_drewN | apply below_drew1 | refine below_set ?_ GE378.out) | exact HB.out))) : w.heap.size ≤ gb379)); have n4_ := Aside0.mk ((by rw [hg]; exact (below_size (by repeat (first | (with_reducible first | exact HB.out | apply below_alloc | apply pw_below_drewN | apply below_drew1 | refine below_set ?_ GE378.out) | exact HB.out))) : w.heap.size ≤ gb379)); have n5_ := Aside0.mk ((by rw [hg]; exact Nat.ne_of_lt (blk_lt (g := gb378) (o := .cells #[.int .i64 a0_0, .int .i64 a0_1] 181 (0, 0)) (by (with_reducible repeat (first | refine blk_drewN ?_ _ | refine blk_drew ?_ | refine blk_alloc ?_ _)); exact BK378.out)) : gb378 ≠ gb379)); have n6_ := Aside0.mk ((by rw [hg]; exact Nat.ne_of_gt (blk_lt (g := gb378) (o := .cells #[.int .i64 a0_0, .int .i64 a0_1] 181 (0, 0)) (by (with_reducible repeat (first | refine blk_drewN ?_ _ | refine blk_drew ?_ | refine blk_alloc ?_ _)); exact BK378.out)) : gb379 ≠ gb378)); clear BK378; clear HB; have BK378 := n0_; have HB := n1_; have BK379 := n2_; have GW379 := n3_; have GE379 := n4_; have NB378_379 := n5_; have NB379_378 := n6_; clear n0_ n1_ n2_ n3_ n4_ n5_ n6_; clear hb hbox hg; have hnb6 := NB378_379.out; have hnc6 := NB379_378.out; have hcz7_0 : w5.cell? ⟨gb378, 0, none⟩ = some (.int .i64 a0_0) := (blk_cell BK378.out 0).trans rfl; have hcz7_1 : w5.cell? ⟨gb378, 1, none⟩ = some (.int .i64 a0_1) := (blk_cell BK378.out 1).trans rfl; have hfz7_0 := blk_frozen BK378.out 0; have hfz7_1 := blk_frozen BK378.out 1; have hcz8_0 : w5.cell? ⟨gb379, 0, none⟩ = some (.int .i64 a1_0) := (blk_cell BK379.out 0).trans rfl; have hcz8_1 : w5.cell? ⟨gb379, 1, none⟩ = some (.int .i64 a1_1) := (blk_cell BK379.out 1).trans rfl; have hfz8_0 := blk_frozen BK379.out 0; have hfz8_1 := blk_frozen BK379.out 1))
  go_ret
  exact ⟨by first | rfl | (simp [errW_none, errW_some] <;> rfl) | (simp [*, errW_none, errW_some] <;> rfl), by repeat (first | (with_reducible first | exact HB.out | apply below_alloc | apply pw_below_drewN | apply below_drew1 | refine below_set ?_ GE378.out | refine below_set ?_ GE379.out) | exact HB.out)⟩
 ·rw [if_neg c3] at H
  have c3b0 : decide (a0_0 < a1_0) = false := decide_eq_false c3
  clear c3
  by_cases c9 : a0_0 = a1_0
  ·rw [if_pos c9] at H
   have c9b0 : (a0_0 == a1_0) = true := beq_iff_eq.mpr c9
   have c9b1 : (a0_0 != a1_0) = false := bne_eq_false_iff_eq.mpr c9
   clear c9
   obtain rfl := Option.some.inj H
   go_enter Tryz.func164, Tryz.ntmps164
   go_wp2_with (first | ((with_reducible refine gate_dst (N := 2) rfl ?_); refine box_event ?hg (N := 2) ?hd (cs := #[.int .i64 a0_0, .int .i64 a0_1]) (t := 181) ?hr ?_; (case hd => rfl); (case hg => rfl); (case hr => first | (go_simp; done) | (go_simp; rfl)); intro gb378 hg w10 hbox hb; have n0_ := Aside0.mk (below_step (by repeat (first | (with_reducible first | exact HB.out | apply below_alloc | apply pw_below_drewN | apply below_drew1) | exact HB.out)) hb); have n1_ := Aside0.mk (hbox); have n2_ := Aside0.mk ((by rw [hg]; exact (below_size (by repeat (first | (with_reducible first | exact HB.out | apply below_alloc | apply pw_below_drewN | apply below_drew1) | exact HB.out))) : w.heap.size ≤ gb378)); have n3_ := Aside0.mk ((by rw [hg]; exact (below_size (by repeat (first | (with_reducible first | exact HB.out | apply below_alloc | apply pw_below_drewN | apply below_drew1) | exact HB.out))) : w.heap.size ≤ gb378)); clear HB; have HB := n0_; have BK378 := n1_; have GW378 := n2_; have GE378 := n3_; clear n0_ n1_ n2_ n3_; clear hb hbox hg) | ((with_reducible refine gate_dst (N := 3) rfl ?_); refine box_event ?hg (N := 3) ?hd (cs := #[.int .i64 a1_0, .int .i64 a1_1]) (t := 181) ?hr ?_; (case hd => rfl); (case hg => rfl); (case hr => first | (go_simp; done) | (go_simp; rfl)); intro gb379 hg w11 hbox hb; have n0_ := Aside0.mk (blk_below (g := gb378) (o := .cells #[.int .i64 a0_0, .int .i64 a0_1] 181 (0, 0)) (by (with_reducible repeat (first | refine blk_drewN ?_ _ | refine blk_drew ?_ | refine blk_alloc ?_ _)); exact BK378.out) hb); have n1_ := Aside0.mk (below_step (by repeat (first | (with_reducible first | exact HB.out | apply below_alloc | apply pw_below_drewN | apply below_drew1 | refine below_set ?_ GE378.out) | exact HB.out)) hb); have n2_ := Aside0.mk (hbox); have n3_ := Aside0.mk ((by rw [hg]; exact (below_size (by repeat (first | (with_reducible first | exact HB.out | apply below_alloc | apply pw_below_drewN | apply below_drew1 | refine below_set ?_ GE378.out) | exact HB.out))) : w.heap.size ≤ gb379)); have n4_ := Aside0.mk ((by rw [hg]; exact (below_size (by repeat (first | (with_reducible first | exact HB.out | apply below_alloc | apply pw_below_drewN | apply below_drew1 | refine below_set ?_ GE378.out) | exact HB.out))) : w.heap.size ≤ gb379)); have n5_ := Aside0.mk ((by rw [hg]; exact Nat.ne_of_lt (blk_lt (g := gb378) (o := .cells #[.int .i64 a0_0, .int .i64 a0_1] 181 (0, 0)) (by (with_reducible repeat (first | refine blk_drewN ?_ _ | refine blk_drew ?_ | refine blk_alloc ?_ _)); exact BK378.out)) : gb378 ≠ gb379)); have n6_ := Aside0.mk ((by rw [hg]; exact Nat.ne_of_gt (blk_lt (g := gb378) (o := .cells #[.int .i64 a0_0, .int .i64 a0_1] 181 (0, 0)) (by (with_reducible repeat (first | refine blk_drewN ?_ _ | refine blk_drew ?_ | refine blk_alloc ?_ _)); exact BK378.out)) : gb379 ≠ gb378)); clear BK378; clear HB; have BK378 := n0_; have HB := n1_; have BK379 := n2_; have GW379 := n3_; have GE379 := n4_; have NB378_379 := n5_; have NB379_378 := n6_; clear n0_ n1_ n2_ n3_ n4_ n5_ n6_; clear hb hbox hg; have hnb12 := NB378_379.out; have hnc12 := NB379_378.out; have hcz13_0 : w11.cell? ⟨gb378, 0, none⟩ = some (.int .i64 a0_0) := (blk_cell BK378.out 0).trans rfl; have hcz13_1 : w11.cell? ⟨gb378, 1, none⟩ = some (.int .i64 a0_1) := (blk_cell BK378.out 1).trans rfl; have hfz13_0 := blk_frozen BK378.out 0; have hfz13_1 := blk_frozen BK378.out 1; have hcz14_0 : w11.cell? ⟨gb379, 0, none⟩ = some (.int .i64 a1_0) := (blk_cell BK379.out 0).trans rfl; have hcz14_1 : w11.cell? ⟨gb379, 1, none⟩ = some (.int .i64 a1_1) := (blk_cell BK379.out 1).trans rfl; have hfz14_0 := blk_frozen BK379.out 0; have hfz14_1 := blk_frozen BK379.out 1))
   go_ret
   exact ⟨by first | rfl | (simp [errW_none, errW_some] <;> rfl) | (simp [*, errW_none, errW_some] <;> rfl), by repeat (first | (with_reducible first | exact HB.out | apply below_alloc | apply pw_below_drewN | apply below_drew1 | refine below_set ?_ GE378.out | refine below_set ?_ GE379.out) | exact HB.out)⟩
  ·rw [if_neg c9] at H
   have c9b0 : (a0_0 == a1_0) = false := beq_eq_false_iff_ne.mpr c9
   have c9b1 : (a0_0 != a1_0) = true := bne_iff_ne.mpr c9
   obtain rfl := Option.some.inj H
   go_enter Tryz.func164, Tryz.ntmps164
   go_wp2_with (first | ((with_reducible refine gate_dst (N := 2) rfl ?_); refine box_event ?hg (N := 2) ?hd (cs := #[.int .i64 a0_0, .int .i64 a0_1]) (t := 181) ?hr ?_; (case hd => rfl); (case hg => rfl); (case hr => first | (go_simp; done) | (go_simp; rfl)); intro gb378 hg w15 hbox hb; have n0_ := Aside0.mk (below_step (by repeat (first | (with_reducible first | exact HB.out | apply below_alloc | apply pw_below_drewN | apply below_drew1) | exact HB.out)) hb); have n1_ := Aside0.mk (hbox); have n2_ := Aside0.mk ((by rw [hg]; exact (below_size (by repeat (first | (with_reducible first | exact HB.out | apply below_alloc | apply pw_below_drewN | apply below_drew1) | exact HB.out))) : w.heap.size ≤ gb378)); have n3_ := Aside0.mk ((by rw [hg]; exact (below_size (by repeat (first | (with_reducible first | exact HB.out | apply below_alloc | apply pw_below_drewN | apply below_drew1) | exact HB.out))) : w.heap.size ≤ gb378)); clear HB; have HB := n0_; have BK378 := n1_; have GW378 := n2_; have GE378 := n3_; clear n0_ n1_ n2_ n3_; clear hb hbox hg) | ((with_reducible refine gate_dst (N := 3) rfl ?_); refine box_event ?hg (N := 3) ?hd (cs := #[.int .i64 a1_0, .int .i64 a1_1]) (t := 181) ?hr ?_; (case hd => rfl); (case hg => rfl); (case hr => first | (go_simp; done) | (go_simp; rfl)); intro gb379 hg w16 hbox hb; have n0_ := Aside0.mk (blk_below (g := gb378) (o := .cells #[.int .i64 a0_0, .int .i64 a0_1] 181 (0, 0)) (by (with_reducible repeat (first | refine blk_drewN ?_ _ | refine blk_drew ?_ | refine blk_alloc ?_ _)); exact BK378.out) hb); have n1_ := Aside0.mk (below_step (by repeat (first | (with_reducible first | exact HB.out | apply below_alloc | apply pw_below_drewN | apply below_drew1 | refine below_set ?_ GE378.out) | exact HB.out)) hb); have n2_ := Aside0.mk (hbox); have n3_ := Aside0.mk ((by rw [hg]; exact (below_size (by repeat (first | (with_reducible first | exact HB.out | apply below_alloc | apply pw_below_drewN | apply below_drew1 | refine below_set ?_ GE378.out) | exact HB.out))) : w.heap.size ≤ gb379)); have n4_ := Aside0.mk ((by rw [hg]; exact (below_size (by repeat (first | (with_reducible first | exact HB.out | apply below_alloc | apply pw_below_drewN | apply below_drew1 | refine below_set ?_ GE378.out) | exact HB.out))) : w.heap.size ≤ gb379)); have n5_ := Aside0.mk ((by rw [hg]; exact Nat.ne_of_lt (blk_lt (g := gb378) (o := .cells #[.int .i64 a0_0, .int .i64 a0_1] 181 (0, 0)) (by (with_reducible repeat (first | refine blk_drewN ?_ _ | refine blk_drew ?_ | refine blk_alloc ?_ _)); exact BK378.out)) : gb378 ≠ gb379)); have n6_ := Aside0.mk ((by rw [hg]; exact Nat.ne_of_gt (blk_lt (g := gb378) (o := .cells #[.int .i64 a0_0, .int .i64 a0_1] 181 (0, 0)) (by (with_reducible repeat (first | refine blk_drewN ?_ _ | refine blk_drew ?_ | refine blk_alloc ?_ _)); exact BK378.out)) : gb379 ≠ gb378)); clear BK378; clear HB; have BK378 := n0_; have HB := n1_; have BK379 := n2_; have GW379 := n3_; have GE379 := n4_; have NB378_379 := n5_; have NB379_378 := n6_; clear n0_ n1_ n2_ n3_ n4_ n5_ n6_; clear hb hbox hg; have hnb17 := NB378_379.out; have hnc17 := NB379_378.out; have hcz18_0 : w16.cell? ⟨gb378, 0, none⟩ = some (.int .i64 a0_0) := (blk_cell BK378.out 0).trans rfl; have hcz18_1 : w16.cell? ⟨gb378, 1, none⟩ = some (.int .i64 a0_1) := (blk_cell BK378.out 1).trans rfl; have hfz18_0 := blk_frozen BK378.out 0; have hfz18_1 := blk_frozen BK378.out 1; have hcz19_0 : w16.cell? ⟨gb379, 0, none⟩ = some (.int .i64 a1_0) := (blk_cell BK379.out 0).trans rfl; have hcz19_1 : w16.cell? ⟨gb379, 1, none⟩ = some (.int .i64 a1_1) := (blk_cell BK379.out 1).trans rfl; have hfz19_0 := blk_frozen BK379.out 0; have hfz19_1 := blk_frozen BK379.out 1))
   go_ret
   exact ⟨by first | rfl | (simp [errW_none, errW_some] <;> rfl) | (simp [*, errW_none, errW_some] <;> rfl), by repeat (first | (with_reducible first | exact HB.out | apply below_alloc | apply pw_below_drewN | apply below_drew1 | refine below_set ?_ GE378.out | refine below_set ?_ GE379.out) | exact HB.out)⟩
end Go.Proofs.YthgehdembghdaaaGreat.P
namespace Go.Proofs.YthgehdembghdaaaGreat.P
open Go.RowKit Go.Proofs.YthgehdembghdaaaGreatW.PrintWords Go.Proofs.YthgehdembghdaaaGreatW.PrintLast Go.Proofs.YthgehdembghdaaaGreatW.PrintMore
set_option linter.unusedVariables false
set_option linter.unusedSimpArgs false
abbrev EnS := S181
def toE (x : EnS) : Heap.E := (x.f0, x.f1)
variable {w w' : World} {hb : Nat} {l : List EnS}
structure HeapM (w : World) (base hb : Nat) (sv : Value) (l : List EnS) : Prop where
 box : w.heap[hb]? = some (.cells #[sv] 179 (0, 0))
 row : Kd.R k181 181 w base (fun _ => True) sv l
 low : base ≤ hb
 len : l.length ≤ 8000000000000
end Go.Proofs.YthgehdembghdaaaGreat.P
namespace Go.Proofs.YthgehdembghdaaaGreat.P
open Go.RowKit Go.Proofs.YthgehdembghdaaaGreatW.PrintWords Go.Proofs.YthgehdembghdaaaGreatW.PrintLast Go.Proofs.YthgehdembghdaaaGreatW.PrintMore
set_option linter.unusedVariables false
set_option linter.unusedSimpArgs false
def encH (x : EnS) : List Value := [.int .i64 x.f0, .int .i64 x.f1]
instance : Inhabited EnS := ⟨⟨0, 0⟩⟩
structure HeapW (w : World) (hb g cap : Nat) (l : List EnS) : Prop where
 box : w.heap[hb]? = some (.cells #[.slice (some ⟨g, 0, none⟩) l.length cap] 179 (0, 0))
 row : RowIn encH 2 181 g cap l.toArray w
variable {w w' : World} {hb g cap : Nat} {l : List EnS}
theorem HeapW.at_ (h : HeapW w hb g cap l) {i : Nat} (hi : i < l.length) : w.cell? ⟨g, i * 2, none⟩ = some (.int .i64 (l.getD i default).f0) ∧ w.cell? ⟨g, i * 2 + 1, none⟩ = some (.int .i64 (l.getD i default).f1) := by
 have hsz : i < l.toArray.size := by simpa using hi
 exact ⟨h.row.cell hsz (c := 0) (by omega) (u := .int .i64 (l.getD i default).f0) (by rw [getD_toArray]; rfl), h.row.cell hsz (c := 1) (by omega) (u := .int .i64 (l.getD i default).f1) (by rw [getD_toArray]; rfl)⟩
theorem HeapW.put {i : Nat} (h : RowIn encH 2 181 g cap l.toArray w) (hi : i < l.length) (a b : Int) : RowIn encH 2 181 g cap (l.set i ⟨a, b⟩).toArray ((w.setCell ⟨g, i * 2, none⟩ (.int .i64 a)).setCell ⟨g, i * 2 + 1, none⟩ (.int .i64 b)) := by
 have hsz : i < l.toArray.size := by simpa using hi
 obtain ⟨q, hq⟩ : ∃ q : EnS, q = l.getD i default := ⟨_, rfl⟩
 have r1 := RowIn.store1 h hsz (c := 0) (by omega) (.int .i64 a) (⟨a, q.f1⟩ : EnS) (by rw [getD_toArray]; rfl) (by rw [getD_toArray, ← hq]; rfl)
 have e1 : (l.toArray.setIfInBounds i (⟨a, q.f1⟩ : EnS))[i]! = (⟨a, q.f1⟩ : EnS) := by rw [getElem!_pos _ _ (by simpa using hi)]; simp
 have r2 := RowIn.store1 r1 (i := i) (by simpa using hi) (c := 1) (by omega) (.int .i64 b) (⟨a, b⟩ : EnS) (by rw [e1]; rfl) (by rw [e1]; rfl)
 rw [show (l.toArray.setIfInBounds i (⟨a, q.f1⟩ : EnS)).setIfInBounds i (⟨a, b⟩ : EnS) = (l.set i ⟨a, b⟩).toArray by simp, Nat.add_zero] at r2
 exact r2
def swapS (l : List EnS) (i p : Nat) : List EnS := (l.set i ⟨(l.getD p default).f0, (l.getD p default).f1⟩).set p ⟨(l.getD i default).f0, (l.getD i default).f1⟩
theorem gt_map (l : List EnS) {i : Nat} (hi : i < l.length) : Heap.gt (l.map toE) i = toE (l.getD i default) := by
 unfold Heap.gt
 rw [List.getD_eq_getElem?_getD, List.getD_eq_getElem?_getD, List.getElem?_map, List.getElem?_eq_getElem hi]
 rfl
theorem swap_map {l : List EnS} {i p : Nat} (hi : i < l.length) (hp : p < l.length) : (swapS l i p).map toE = Heap.swap (l.map toE) i p := by
 unfold swapS Heap.swap
 rw [gt_map l hi, gt_map l hp, List.map_set, List.map_set]
 try rfl
theorem HeapW.swap {i p : Nat} (h : HeapW w hb g cap l) (hi : i < l.length) (hp : p < l.length) {x0 x1 y0 y1 : Int} (hx0 : x0 = (l.getD i default).f0) (hx1 : x1 = (l.getD i default).f1) (hy0 : y0 = (l.getD p default).f0) (hy1 : y1 = (l.getD p default).f1) :
  HeapW (((((w.setCell ⟨g, i * 2, none⟩ (.int .i64 y0)).setCell ⟨g, i * 2 + 1, none⟩ (.int .i64 y1)).setCell ⟨g, p * 2, none⟩ (.int .i64 x0)).setCell ⟨g, p * 2 + 1, none⟩ (.int .i64 x1)).drew) hb g cap (swapS l i p) := by
 have r1 := HeapW.put h.row hi y0 y1
 have r2 := HeapW.put r1 (i := p) (by simpa using hp) x0 x1
 obtain ⟨cs, hcs⟩ := h.row.typ
 have hne : hb ≠ g := blk_ne h.box hcs (by decide)
 subst hx0 hx1 hy0 hy1
 refine ⟨?_, r2⟩
 have e : (swapS l i p).length = l.length := by simp [swapS]
 rw [e]
 exact blk_far (blk_far (blk_far (blk_far h.box (p := ⟨g, i * 2, none⟩) hne _) (p := ⟨g, i * 2 + 1, none⟩) hne _) (p := ⟨g, p * 2, none⟩) hne _) (p := ⟨g, p * 2 + 1, none⟩) hne _
theorem HeapW.go (h : HeapW w hb g cap l) (hb2 : Below w.heap.size w w') : HeapW w' hb g cap l := ⟨blk_step h.box hb2, h.row.heap (by obtain ⟨cs, hcs⟩ := h.row.typ; exact hb2.block g (blk_lt hcs))⟩
theorem hless_some (x0 x1 y0 y1 : Int) : heap_entry_less.f x0 x1 y0 y1 = some (Heap.lt (x0, x1) (y0, y1)) := by
 unfold heap_entry_less.f Heap.lt
 by_cases q : x0 < y0
 ·rw [if_pos q, decide_eq_true (.inl q)]
 ·rw [if_neg q]
  by_cases q2 : x0 = y0
  ·rw [if_pos q2]
   exact congrArg some (decide_eq_decide.2 ⟨fun z => .inr ⟨q2, z⟩, fun z => z.elim (fun z => absurd z q) (fun z => z.2)⟩)
  ·rw [if_neg q2, decide_eq_false (fun z => z.elim q (fun z => q2 z.1))]
structure HeapV (w0 w : World) (hb g cap : Nat) (l : List EnS) : Prop extends HeapW w hb g cap l where
 chg : Chg (fun b => b = g) w0 w
variable {w0 : World}
theorem HeapV.go (h : HeapV w0 w hb g cap l) (hb2 : Below w.heap.size w w') : HeapV w0 w' hb g cap l := ⟨h.toHeapW.go hb2, h.chg.trans (Chg.of_below hb2 _)⟩
theorem HeapV.drew (h : HeapV w0 w hb g cap l) : HeapV w0 w.drew hb g cap l := h.go (below_drew1 (Below.refl _ _))
theorem HeapV.swap {i p : Nat} (h : HeapV w0 w hb g cap l) (hi : i < l.length) (hp : p < l.length) {x0 x1 y0 y1 : Int} (hx0 : x0 = (l.getD i default).f0) (hx1 : x1 = (l.getD i default).f1) (hy0 : y0 = (l.getD p default).f0) (hy1 : y1 = (l.getD p default).f1) :
  HeapV w0 (((((w.setCell ⟨g, i * 2, none⟩ (.int .i64 y0)).setCell ⟨g, i * 2 + 1, none⟩ (.int .i64 y1)).setCell ⟨g, p * 2, none⟩ (.int .i64 x0)).setCell ⟨g, p * 2 + 1, none⟩ (.int .i64 x1)).drew) hb g cap (swapS l i p) :=
 ⟨h.toHeapW.swap hi hp hx0 hx1 hy0 hy1, ((((h.chg.set_ (.inl rfl) _).set_ (.inl rfl) _).set_ (.inl rfl) _).set_ (.inl rfl) _).drew⟩
set_option maxRecDepth 1000000 in
set_option maxHeartbeats 8000000 in
theorem up_calls (h : HeapW w hb g cap l) (hl : 0 < l.length) (hn : l.length ≤ 8000000000000) : Calls Tryz.prog 142 #[.pointer (some ⟨hb, 0, none⟩)] w fun e w' => e = .returned (.tuple #[]) ∧ ∃ l', HeapV w w' hb g cap l' ∧ l'.map toE = Heap.upF l.length (l.length - 1) (l.map toE) := by
 have HH : Aside0 (HeapV w w hb g cap l) := ⟨⟨h, Chg.refl _ _⟩⟩
 have HN := Aside0.mk (And.intro hl hn)
 have c0 := cell_blk (j := 0) (u := .slice (some ⟨g, 0, none⟩) l.length cap) h.box rfl
 have iw : IntKind.i64.wrap ((l.length : Int) - 1) = (l.length : Int) - 1 := by rw [IntKind.wrap_i64]; omega
 clear h hl hn
 go_enter Tryz.func142, Tryz.ntmps142
 go_wp2_with fail
 have HW0 := HH
 go_loopg [2] l.length (fun gg v2 wr => ∃ (i : Nat) (lk : List EnS), v2 = .int .i64 (i : Int) ∧ i < l.length ∧ i ≤ gg ∧ lk.length = l.length ∧ Aside0 (HeapV w wr hb g cap lk) ∧ Aside0 (∃ f, i < f ∧ Heap.upF f i (lk.map toE) = Heap.upF l.length (l.length - 1) (l.map toE)))
 case atStart => exact ⟨l.length - 1, l, by have := HN.out; show Value.int .i64 _ = Value.int .i64 _; congr 1; omega, by have := HN.out; omega, by omega, rfl, HW0, ⟨l.length, by have := HN.out; omega, rfl⟩⟩
 case round =>
  clear HW0
  obtain ⟨i, lk, rfl, hi, hgg, hlk, HW, HF⟩ := hrel
  by_cases h0 : i = 0
  ·subst h0
   have d1 : decide ((0 : Int) < ((0 : Nat) : Int)) = false := by decide
   go_wp2_with fail
   go_end0
   obtain ⟨f, hf, he⟩ := HF.out
   obtain ⟨f, rfl⟩ : ∃ q, f = q + 1 := ⟨f - 1, by omega⟩
   exact ⟨rfl, lk, HW.out, by rw [← he, Heap.upF, if_pos rfl]⟩
  ·obtain ⟨p, hp⟩ : ∃ p, p = (i - 1) / 2 := ⟨_, rfl⟩
   have d1 : (0 : Int) < (i : Int) := by omega
   have d1b : 0 < i := by omega
   have iw1 : IntKind.i64.wrap ((i : Int) - 1) = (i : Int) - 1 := by have := HN.out; rw [IntKind.wrap_i64]; omega
   have c0 := cell_blk (j := 0) (u := .slice (some ⟨g, 0, none⟩) lk.length cap) HW.out.box rfl
   rw [hlk] at c0
   have hil : i < lk.length := by omega
   have hpl : p < lk.length := by omega
   obtain ⟨a0, a1⟩ := HW.out.at_ hil
   obtain ⟨b0, b1⟩ := HW.out.at_ hpl
   obtain ⟨x0, hx0⟩ : ∃ x, x = (lk.getD i default).f0 := ⟨_, rfl⟩
   obtain ⟨x1, hx1⟩ : ∃ x, x = (lk.getD i default).f1 := ⟨_, rfl⟩
   obtain ⟨y0, hy0⟩ : ∃ x, x = (lk.getD p default).f0 := ⟨_, rfl⟩
   obtain ⟨y1, hy1⟩ : ∃ x, x = (lk.getD p default).f1 := ⟨_, rfl⟩
   rw [← hx0] at a0
   rw [← hx1] at a1
   rw [← hy0] at b0
   rw [← hy1] at b1
   have e1 : (0 : Int) ≤ (i : Int) := by omega
   have e2 : (i : Int) < (l.length : Int) := by omega
   have e3 : (0 : Int) ≤ (p : Int) := by omega
   have e4 : (p : Int) < (l.length : Int) := by omega
   have iq : IntKind.i64.wrap (Int.tdiv ((i : Int) - 1) 2) = (p : Int) := by rw [Int.tdiv_eq_ediv_of_nonneg (by omega), IntKind.wrap_i64]; have := HN.out; omega
   have HP := Aside0.mk hp
   have HI := Aside0.mk (And.intro hi (And.intro hgg hlk))
   have hu := Tryz.underlying181
   have HX := Aside0.mk (And.intro hx0 (And.intro hx1 (And.intro hy0 hy1)))
   have HIL := Aside0.mk (And.intro hil (And.intro hpl h0))
   clear hp hi hgg h0 hx0 hx1 hy0 hy1 hlk hil hpl
   go_upto_region 3 with fail
   have HLE := Aside0.mk (heap_entry_less.calls x0 x1 y0 y1 (Heap.lt (x0, x1) (y0, y1)) wr.drew (hless_some _ _ _ _))
   go_region_held3 (fun w' => w'.cell? ⟨hb, 0, none⟩ = some (.slice (some ⟨g, 0, none⟩) l.length cap) ∧ w'.cell? ⟨g, i * 2, none⟩ = some (.int .i64 x0) ∧ w'.cell? ⟨g, i * 2 + 1, none⟩ = some (.int .i64 x1) ∧ w'.cell? ⟨g, p * 2, none⟩ = some (.int .i64 y0) ∧ w'.cell? ⟨g, p * 2 + 1, none⟩ = some (.int .i64 y1)) (first | (with_reducible first | exact ⟨c0, a0, a1, b0, b1⟩ | exact ⟨k0, k1, k2, k3, k4⟩) | go_keep)
    ((go_at_call 164; refine HLE.out.mono ?_; rintro e w2 ⟨rfl, hb2⟩; have k0 := pw_cell_below hb2 (a := ⟨hb, 0, none⟩) (v := .slice (some ⟨g, 0, none⟩) l.length cap) c0; have k1 := pw_cell_below hb2 (a := ⟨g, i * 2, none⟩) (v := .int .i64 x0) a0; have k2 := pw_cell_below hb2 (a := ⟨g, i * 2 + 1, none⟩) (v := .int .i64 x1) a1; have k3 := pw_cell_below hb2 (a := ⟨g, p * 2, none⟩) (v := .int .i64 y0) b0; have k4 := pw_cell_below hb2 (a := ⟨g, p * 2 + 1, none⟩) (v := .int .i64 y1) b1; have HB2 := Aside0.mk hb2; clear hb2))
   obtain ⟨lt, hlt⟩ : ∃ lt, lt = Heap.lt (x0, x1) (y0, y1) := ⟨_, rfl⟩
   rw [← hlt]
   have HLT := Aside0.mk hlt
   have HW2 := HW.out.row.heap (w' := w2) (by rw [HB2.out.block g (by obtain ⟨cs, hcs⟩ := HW.out.row.typ; exact blk_lt hcs)]; rfl)
   have f0 := HW2.free (i * 2)
   have f1 := HW2.free (i * 2 + 1)
   have f2 := HW2.free (p * 2)
   have f3 := HW2.free (p * 2 + 1)
   have n1 : i ≠ p := by have := HI.out; have := HP.out; omega
   clear hlt c0 a0 a1 b0 b1 HLE HW2
   cases lt with
   | false =>
    go_wp2_with fail
    (try simp only [Exit.inBlock, Exit.then])
    refine bodyPost_ret (results_none rfl _ _ _) rfl ?_
    obtain ⟨f, hf, he⟩ := HF.out
    obtain ⟨f, rfl⟩ : ∃ q, f = q + 1 := ⟨f - 1, by omega⟩
    refine ⟨rfl, lk, HW.out.drew.go HB2.out, ?_⟩
    rw [← he, Heap.upF, if_neg HIL.out.2.2, if_neg]
    rw [show Heap.par i = p from HP.out.symm, gt_map lk HIL.out.1, gt_map lk HIL.out.2.1]
    have := HLT.out
    rw [HX.out.1, HX.out.2.1, HX.out.2.2.1, HX.out.2.2.2] at this
    intro q
    exact absurd (this.trans q) (by decide)
   | true =>
    go_upto_region 4 with fail
    go_region
    go_wp2
    go_roundg p
    case measure => have := HI.out; have := HP.out; have := HIL.out; omega
    case rel =>
     obtain ⟨f, hf, he⟩ := HF.out
     obtain ⟨f, rfl⟩ : ∃ q, f = q + 1 := ⟨f - 1, by omega⟩
     refine ⟨p, swapS lk i p, rfl, by have := HI.out; have := HIL.out; omega, Nat.le_refl _, by simp [swapS]; exact HI.out.2.2, ⟨(HW.out.drew.go HB2.out).swap HIL.out.1 HIL.out.2.1 HX.out.1 HX.out.2.1 HX.out.2.2.1 HX.out.2.2.2⟩, ⟨f, by have := HP.out; have := HIL.out; omega, ?_⟩⟩
     rw [Heap.upF, if_neg HIL.out.2.2, if_pos, show Heap.par i = p from HP.out.symm] at he
     ·rw [swap_map HIL.out.1 HIL.out.2.1]
      exact he
     ·rw [show Heap.par i = p from HP.out.symm, gt_map lk HIL.out.1, gt_map lk HIL.out.2.1]
      have := HLT.out
      rw [HX.out.1, HX.out.2.1, HX.out.2.2.1, HX.out.2.2.2] at this
      exact this.symm
end Go.Proofs.YthgehdembghdaaaGreat.P
