/-
 WALKED BY HAND: the document's distances (herdsmanref7.Spread) are the distances.
-/
import Derived.Test.YthgehdembghdaaaGreatXSteer
import Derived.Test.YthgehdembghdaaaGreatXLawS
import Derived.Test.YthgehdembghdaaaGreatPx5
import Derived.StillTailTactics
namespace Go.Proofs.YthgehdembghdaaaGreat.P
open Go.RowKit Go.Proofs.YthgehdembghdaaaGreatW.PrintWords Go.Proofs.YthgehdembghdaaaGreatW.PrintLast Go.Proofs.YthgehdembghdaaaGreatW.PrintMore
open Go.Proofs.YthgehdembghdaaaGreat.Dist
set_option linter.unusedVariables false
set_option linter.unusedSimpArgs false
attribute [local go_sem] max2_int min2_int max_two min_two max_three min_three max_four min_four
theorem rd_setR (d : List Int) (i : Nat) (hi : i < d.length) (k : Int) (j : Nat) (hj : j < d.length) : rd (d.set i k) (j : Int) = if j = i then k else rd d (j : Int) := by
 rw [rd_get (d.set i k) (by simpa using hj), rd_get d hj]
 by_cases h : j = i
 ·subst h
  rw [if_pos rfl]
  simp
 ·rw [if_neg h, List.getElem_set_ne (Ne.symm h)]
theorem sumTo_setR (d : List Int) (i : Nat) (hi : i < d.length) (k : Int) (n : Nat) (hn : n ≤ d.length) : sumTo (fun j => rd (d.set i k) (j : Int)) n = sumTo (fun j => rd d (j : Int)) n + if i < n then k - rd d (i : Int) else 0 := by
 induction n with
 | zero => simp [sumTo]
 | succ n ih =>
  unfold sumTo
  rw [ih (by omega), rd_setR d i hi k n (by omega)]
  by_cases e : n = i
  ·subst e
   rw [if_neg (by omega), if_pos rfl, if_pos (by omega)]
   omega
  ·rw [if_neg e]
   by_cases h : i < n
   ·rw [if_pos h, if_pos (by omega)]; omega
   ·rw [if_neg h, if_neg (by omega)]; omega
structure InvR (W : Int) (C : List Int) (l : List Seed) (R D : List Int) : Prop where
 len : D.length = C.length
 ge : ∀ i : Nat, i < C.length → rd R i ≤ rd D i
 le : ∀ i : Nat, i < C.length → rd D i ≤ INF
 src : ∀ x, x ∈ l → rd D x.f0 ≤ x.f2
def RelR (W H : Int) (C D : List Int) (c : Int) (n : Int) : Prop := rd C c ≠ 255 → ∀ s, 0 ≤ s → s < n → ¬ OutE W H c s → rd C (nbS W c s) ≠ 255 → rd D c ≤ rd D (nbS W c s) + rd C (nbS W c s)
theorem refSpread_end {W H : Int} {C : List Int} (hb : ∀ x ∈ C, 0 ≤ x ∧ x ≤ 255) {l : List Seed} (h : SeedsOk W H C l) {D : List Int} (hi : InvR W C l (distOf W C l) D) (hr : ∀ c : Nat, c < C.length → RelR W H C D c 4) : D = distOf W C l := by
 obtain ⟨a1, a2, a3, a4, a5, a6⟩ := h.1
 have hD := distOf_spec hb h
 have hU : (grT W C l).Upper (fun i => rd D i) := by
  intro i hil
  have hil' : i < C.length := hil
  refine ⟨hi.le i hil', fun ho => ⟨fun k hk => ?_, fun j hj hadj hoj => ?_⟩⟩
  ·obtain ⟨x, hx, hxi, rfl⟩ := hk
   show rd D (i : Int) ≤ x.f2
   rw [← hxi]
   exact hi.src x hx
  ·have hj' : j < C.length := hj
   obtain ⟨s, hs, hs', hje⟩ := nb_of ⟨a1, a2⟩ ⟨a3, a4⟩ a5 (show (0 : Int) ≤ (i : Int) by omega) (by omega) (show (0 : Int) ≤ (j : Int) by omega) (by omega) hadj
   have := hr i hil' ho s hs.1 (by omega) hs' (by rw [hje]; exact hoj)
   rw [hje] at this
   exact this
 have hle := Gr.le_of (fun j hj ho => (costs_pos hb h.1 l j hj ho).1) hU hD.2.2
 apply List.ext_getElem (by rw [hi.len, hD.1])
 intro i h1 h2
 have e1 := hle i (show i < C.length by rw [← hi.len]; exact h1)
 have e2 := hi.ge i (by rw [← hi.len]; exact h1)
 simp only [rd_get D h1, rd_get (distOf W C l) h2] at e1 e2
 omega
structure PassR (W H : Int) (C : List Int) (l : List Seed) (D0 D : List Int) (b : Bool) (c : Nat) : Prop where
 inv : InvR W C l (distOf W C l) D
 no : b = false → D = D0 ∧ ∀ c' : Nat, c' < c → RelR W H C D0 c' 4
 yes : b = true → sumTo (fun j => rd D (j : Int)) C.length < sumTo (fun j => rd D0 (j : Int)) C.length
structure PassS (W H : Int) (C : List Int) (l : List Seed) (D0 D : List Int) (b : Bool) (c s : Nat) : Prop where
 inv : InvR W C l (distOf W C l) D
 no : b = false → D = D0 ∧ (∀ c' : Nat, c' < c → RelR W H C D0 c' 4) ∧ RelR W H C D0 c s
 yes : b = true → sumTo (fun j => rd D (j : Int)) C.length < sumTo (fun j => rd D0 (j : Int)) C.length
section
variable {W H : Int} {C : List Int} {l : List Seed} {D0 D : List Int} {b : Bool} {c s : Nat}
theorem PassR.start (h : PassR W H C l D0 D b c) : PassS W H C l D0 D b c 0 := ⟨h.inv, fun e => ⟨(h.no e).1, (h.no e).2, fun _ s h1 h2 => by omega⟩, h.yes⟩
theorem PassS.ends (h : PassS W H C l D0 D b c s) (hr : b = false → RelR W H C D0 c 4) : PassR W H C l D0 D b (c + 1) :=
 ⟨h.inv, fun e => ⟨(h.no e).1, fun c' hc' => by
  by_cases e2 : c' = c
  ·rw [e2]; exact hr e
  ·exact (h.no e).2.1 c' (by omega)⟩, h.yes⟩
theorem PassS.fin (h : PassS W H C l D0 D b c 4) : PassR W H C l D0 D b (c + 1) := h.ends fun e => (h.no e).2.2
theorem PassS.wall (h : PassS W H C l D0 D b c s) (hw : rd C (c : Int) = 255) : PassR W H C l D0 D b (c + 1) := h.ends fun _ hn => absurd hw hn
theorem PassS.skip (h : PassS W H C l D0 D b c s) (hle : ¬ OutE W H c s → rd C (nbS W c s) ≠ 255 → rd D c ≤ rd D (nbS W c s) + rd C (nbS W c s)) : PassS W H C l D0 D b c (s + 1) :=
 ⟨h.inv, fun e => ⟨(h.no e).1, (h.no e).2.1, fun hn s' h1 h2 h3 h4 => by
  by_cases e2 : s' = (s : Int)
  ·subst e2
   have := hle h3 h4
   rw [(h.no e).1] at this
   exact this
  ·exact (h.no e).2.2 hn s' h1 (by omega) h3 h4⟩, h.yes⟩
theorem PassS.less (hb : ∀ x ∈ C, 0 ≤ x ∧ x ≤ 255) (hs : SeedsOk W H C l) (h : PassS W H C l D0 D b c s) (hc : c < C.length) (hw : rd C (c : Int) ≠ 255) {j : Nat} (hj : j < C.length) (hjw : rd C (j : Int) ≠ 255) (hadj : AdjT W c j) (hlt : rd D (j : Int) + rd C (j : Int) < rd D (c : Int)) (s' : Nat) : PassS W H C l D0 (D.set c (rd D (j : Int) + rd C (j : Int))) true c s' := by
 have hI := h.inv
 have hcd : c < D.length := by rw [hI.len]; exact hc
 have hD := distOf_spec hb hs
 have hup : rd (distOf W C l) c ≤ rd (distOf W C l) j + rd C j := ((hD.2.1 c hc).2 hw).2 j hj hadj hjw
 have hgej := hI.ge j hj
 have hlec := hI.le c hc
 have hset : ∀ i : Nat, i < C.length → rd (D.set c (rd D (j : Int) + rd C (j : Int))) (i : Int) = if i = c then rd D (j : Int) + rd C (j : Int) else rd D (i : Int) := fun i hi => rd_setR D c hcd _ i (by rw [hI.len]; exact hi)
 have hsum := sumTo_setR D c hcd (rd D (j : Int) + rd C (j : Int)) C.length (by rw [hI.len]; omega)
 rw [if_pos hc] at hsum
 refine ⟨⟨by rw [List.length_set]; exact hI.len, fun i hi => ?_, fun i hi => ?_, fun x hx => ?_⟩, fun e => by simp at e, fun _ => ?_⟩
 ·rw [hset i hi]
  split
  ·rename_i e; subst e; omega
  ·exact hI.ge i hi
 ·rw [hset i hi]
  split
  ·omega
  ·exact hI.le i hi
 ·obtain ⟨q0, q1, _⟩ := hs.2 x hx
  have hx' := hI.src x hx
  obtain ⟨i, hi⟩ : ∃ i : Nat, x.f0 = (i : Int) := ⟨x.f0.toNat, by omega⟩
  rw [hi] at hx' ⊢
  rw [hset i (by omega)]
  split
  ·rename_i e; subst e; omega
  ·exact hx'
 ·rw [hsum]
  cases hb' : b with
  | false => have e := (h.no hb').1; rw [← e]; omega
  | true => have := h.yes hb'; omega
def SeedI (W : Int) (C : List Int) (l : List Seed) (D : List Int) (i : Nat) : Prop := (∀ j : Nat, j < C.length → rd (distOf W C l) j ≤ rd D j ∧ rd D j ≤ INF) ∧ ∀ x, x ∈ l.take i → rd D x.f0 ≤ x.f2
theorem SeedI.next (hb : ∀ x ∈ C, 0 ≤ x ∧ x ≤ 255) (h : SeedsOk W H C l) {i : Nat} (hI : SeedI W C l D i) (hlen : D.length = C.length) (hil : i < l.length) {c : Nat} (hc : l[i].f0 = (c : Int)) (hcl : c < C.length) {m : Int} (hm : m = mn (rd D (c : Int)) l[i].f2) : SeedI W C l (D.set c m) (i + 1) := by
 have hD := distOf_spec hb h
 obtain ⟨q0, q1, q2, _⟩ := h.2 l[i] (List.getElem_mem _)
 have hset : ∀ j : Nat, j < C.length → ∀ v, rd (D.set c v) (j : Int) = if j = c then v else rd D (j : Int) := fun j hj v => rd_setR D c (by omega) v j (by omega)
 have hup : rd (distOf W C l) c ≤ l[i].f2 := ((hD.2.1 c hcl).2 (by rw [hc] at q2; exact q2)).1 _ ⟨l[i], List.getElem_mem _, hc, rfl⟩
 have hmn : m ≤ rd D (c : Int) ∧ m ≤ l[i].f2 ∧ rd (distOf W C l) c ≤ m := by
  have := (hI.1 c hcl).1
  rw [hm]
  unfold mn; split <;> omega
 refine ⟨fun j hj => ?_, fun x hx => ?_⟩
 ·rw [hset j hj]
  have := hI.1 j hj
  split
  ·rename_i e; subst e; omega
  ·exact this
 ·rw [List.take_succ_eq_append_getElem hil, List.mem_append, List.mem_singleton] at hx
  rcases hx with hx | rfl
  ·obtain ⟨p0, p1, _⟩ := h.2 x (List.mem_of_mem_take hx)
   have hx' := hI.2 x hx
   obtain ⟨j, hj⟩ : ∃ j : Nat, x.f0 = (j : Int) := ⟨x.f0.toNat, by omega⟩
   rw [hj] at hx' ⊢
   rw [hset j (by omega)]
   split
   ·rename_i e; subst e; omega
   ·exact hx'
  ·rw [hc, hset c hcl, if_pos rfl]; exact hmn.2.1
end
structure SpW (w wr : World) (gb gd cd : Nat) (W H : Int) (At : Option Addr) (ct : Nat) (C D : List Int) : Prop where
 row : Kd.R (Kd.int .i64) 3 wr w.heap.size (fun _ => True) (.slice (some ⟨gd, 0, none⟩) C.length cd) D
 len : D.length = C.length
 base : w.heap.size ≤ gd
 box : wr.heap[gb]? = some (.cells #[.int .i64 W, .int .i64 H, .slice At C.length ct] 86 (0, 0))
 ne : gb ≠ gd
 below : Below w.heap.size w wr
section
variable {w wr w' : World} {gb gd cd : Nat} {W H : Int} {At : Option Addr} {ct : Nat} {C D : List Int}
theorem SpW.step (h : SpW w wr gb gd cd W H At ct C D) (hb : Below wr.heap.size wr w') : SpW w w' gb gd cd W H At ct C D := ⟨Kd.R_below h.row hb, h.len, h.base, blk_step h.box hb, h.ne, below_step h.below hb⟩
theorem SpW.drewN (h : SpW w wr gb gd cd W H At ct C D) (q : Nat) : SpW w (wr.drewN q) gb gd cd W H At ct C D := h.step (pw_below_drewN (Below.refl _ _) q)
theorem SpW.drew (h : SpW w wr gb gd cd W H At ct C D) : SpW w wr.drew gb gd cd W H At ct C D := h.step (below_drew1 (Below.refl _ _))
theorem SpW.cell (h : SpW w wr gb gd cd W H At ct C D) {j : Nat} (hj : j < C.length) : wr.cell? ⟨gd, j, none⟩ = some (.int .i64 (rd D (j : Int))) ∧ wr.frozen? ⟨gd, j, none⟩ = false := by
 have := Kd.R_celln 0 h.row (j : Int) (by omega) (by omega)
 rw [Int.toNat_natCast] at this
 exact this
theorem SpW.set (h : SpW w wr gb gd cd W H At ct C D) (j : Nat) (v : Int) : SpW w (wr.setCell ⟨gd, j, none⟩ (.int .i64 v)) gb gd cd W H At ct C (D.set j v) := by
 have h1 := Kd.R_putn h.row (j : Int) v
 rw [Int.toNat_natCast] at h1
 exact ⟨h1, by rw [List.length_set]; exact h.len, h.base, blk_far h.box h.ne _, h.ne, below_set h.below h.base⟩
end
set_option maxRecDepth 100000 in
set_option maxHeartbeats 8000000 in
theorem spreadW_calls (W H : Int) (At : Option Addr) (ct : Nat) (C : List Int) (As : Option Addr) (cs : Nat) (l : List Seed) (w : World) (hT : Kd.C (Kd.int .u8) w At C.length C) (hTc : C.length ≤ ct) (hS : Kd.C k90 w As l.length l) (hSc : l.length ≤ cs) (hb : ∀ x ∈ C, 0 ≤ x ∧ x ≤ 255) (h : SeedsOk W H C l) (hl : l.length ≤ 1000000) :
  Calls Tryz.prog 83 #[.agg #[.int .i64 W, .int .i64 H, .slice At C.length ct], .slice As l.length cs] w fun e w' => ∃ v, e = .returned v ∧ Kd.R (Kd.int .i64) 3 w' w.heap.size (fun _ => True) v (distOf W C l) ∧ Below w.heap.size w w' := by
 obtain ⟨a1, a2, a3, a4, a5, a6⟩ := id h.1
 have hm := mul_small ⟨a1, a2⟩ ⟨a3, a4⟩
 obtain ⟨adC, hAt, _⟩ := Kd.at_int hT 0 (by omega) (by omega)
 subst hAt
 have HCC : Aside0 (∀ wx, Below w.heap.size w wx → ∀ j : Nat, j < C.length → wx.cell? (adC.add j) = some (.int .u8 (rd C (j : Int)))) := ⟨fun wx hx j hj => by
  obtain ⟨ad, e, hc⟩ := Kd.at_int (Kd.C_below hT hx) (j : Int) (by omega) (by omega)
  obtain rfl := Option.some.inj e
  simpa using hc⟩
 have HS := Aside0.mk hS
 have HBY := Aside0.mk hb
 have HOK := Aside0.mk h
 have HLL := Aside0.mk hl
 have HN := Aside0.mk (show 1 ≤ C.length ∧ C.length ≤ 256 by omega)
 have HWH := Aside0.mk (And.intro (And.intro a1 a2) (And.intro (And.intro a3 a4) a5))
 clear hT hTc hS hSc hb h hl a1 a2 a3 a4 a5 a6 hm
 go_enter Tryz.func83, Tryz.ntmps83
 go_wp2_with ((with_reducible refine gate_dst (N := 2) rfl ?_); refine box_event ?hg (N := 2) ?hd (cs := #[.int .i64 W, .int .i64 H, .slice (some adC) C.length ct]) (t := 86) ?hr ?_; (case hd => rfl); (case hg => rfl); (case hr => first | (go_simp; done) | (go_simp; rfl)); intro gb hg w1 hbox hb; have HX1 := Aside0.mk hbox; have HB1 := Aside0.mk hb; clear hbox hb hg)
 go_loopg [5, 6] C.length (fun gg v5 v6 wr => ∃ i : Nat, v6 = .int .i64 i ∧ i ≤ C.length ∧ C.length - i ≤ gg ∧ Aside0 (Kd.R (Kd.int .i64) 3 wr w.heap.size (fun _ => True) v5 (List.replicate i INF)) ∧ Aside0 (wr.heap[gb]? = some (.cells #[.int .i64 W, .int .i64 H, .slice (some adC) C.length ct] 86 (0, 0))) ∧ Aside0 (Below w.heap.size w wr))
 case atStart => exact ⟨0, rfl, Nat.zero_le _, Nat.le_refl _, ⟨Kd.R_nil _ _ _ _ _⟩, HX1, HB1⟩
 case round =>
  obtain ⟨i, rfl, hi, hgg, HR, HX, HB⟩ := hrel
  have c2 := cell_blk (j := 2) (u := .slice (some adC) C.length ct) HX.out rfl
  by_cases hlt : i < C.length
  ·have d1 : (i : Int) < (C.length : Int) := by omega
   obtain ⟨A5, n5, e5⟩ := Kd.R_slice HR.out
   rw [List.length_replicate] at e5
   subst e5
   have HI := Aside0.mk (And.intro hi (And.intro hgg hlt))
   have HIL : Aside0 (((List.replicate i INF).length + 1) * 8 ≤ 140737488355328) := ⟨by rw [List.length_replicate]; have := HN.out; omega⟩
   clear hi hgg hlt
   go_wp2_with ((with_reducible refine gate_builtin (b := .append) (xs := #[.tmp 19, .tmp 20]) rfl ?_); at_builtin; refine Kd.R_append (Kd.int .i64) (w0 := w) w.heap.size rfl (.tmp 19) (.tmp 20) 36 3 (.int .i64 0) 8 rfl Tryz.underlying36 info3 rfl (by decide) (by omega) (.slice A5 i n5) (List.replicate i INF) (1099511627776 : Int) [.int .i64 1099511627776] (fun _ => True) (fun _ => False) rfl rfl ?aP (fun _ hk => hk.elim) ?aF ?aO ?aB ?aS ?aL ?_; (case aP => exact rfl); (case aB => exact HB.out); (case aF => exact (fun _ _ => trivial)); (case aO => exact HR.out); (case aS => exact HB.out.size); (case aL => exact HIL.out); intro v7 w7 ho7 hb7 hg7 hat7; have HO7 := Aside0.mk ho7; have HB7 := Aside0.mk hb7; have HX7 := Aside0.mk (blk_grown HX.out hg7 (Kd.R_ne HR.out HX.out (by decide))); clear ho7 hb7 hg7 hat7 c2)
   go_roundg (C.length - (i + 1))
   case measure => have := HI.out; omega
   case rel =>
    have hII := HI.out
    have hNN := HN.out
    exact ⟨i + 1, by first | rfl | (rw [w64 (n := (i : Int) + 1) (by omega) (by omega)]; rfl), by omega, Nat.le_refl _, ⟨by rw [List.replicate_succ']; exact HO7.out⟩, HX7, HB7⟩
  ·obtain rfl : i = C.length := by omega
   have d1 : decide (((C.length : Nat) : Int) < (C.length : Int)) = false := by simp
   obtain ⟨gd, cd, ed, hgd, hgl, cells, hcells⟩ := Kd.R_form HR.out (by rw [List.length_replicate]; exact HN.out.1)
   rw [List.length_replicate] at ed
   subst ed
   have HW : Aside0 (SpW w wr gb gd cd W H (some adC) ct C (List.replicate C.length INF)) := ⟨HR.out, by simp, hgd, HX.out, fun e => by
    have h1 := HX.out
    rw [e, hcells] at h1
    injection h1 with h1
    injection h1 with _ h1 _
    exact absurd h1 (by decide), HB.out⟩
   have HSI : Aside0 (SeedI W C l (List.replicate C.length INF) 0) := ⟨fun j hj => by
    rw [rd_get (List.replicate C.length INF) (by simpa using hj), List.getElem_replicate]
    exact ⟨(dist_range HBY.out HOK.out hj).2, Int.le_refl _⟩, fun x hx => by simp at hx⟩
   clear hgd hgl hcells HR HX HB hi hgg hlt HX1 HB1
   go_wp2_with fail
   go_loopg [7] l.length (fun gg v7 wr => ∃ (i : Nat) (D : List Int), v7 = .int .i64 i ∧ i ≤ l.length ∧ l.length - i ≤ gg ∧ Aside0 (SpW w wr gb gd cd W H (some adC) ct C D) ∧ Aside0 (SeedI W C l D i))
   case atStart => exact ⟨0, _, rfl, Nat.zero_le _, Nat.le_refl _, HW, HSI⟩
   case round =>
    clear HW HSI d1 c2
    obtain ⟨i, D, rfl, hi, hgg, HW, HSI⟩ := hrel
    by_cases hlt : i < l.length
    ·have d1 : (i : Int) < (l.length : Int) := by omega
     have hi0 : (0 : Int) ≤ (i : Int) := by omega
     obtain ⟨adS, hA, y0, y1, y2⟩ := at_T90 (Kd.C_below HS.out HW.out.drew.below) (i : Int) (by omega) (by omega)
     subst hA
     obtain ⟨q0, q1, q2, q3, q4, q5⟩ := HOK.out.2 l[i] (List.getElem_mem _)
     obtain ⟨c, hc⟩ : ∃ c : Nat, l[i].f0 = (c : Int) := ⟨l[i].f0.toNat, by omega⟩
     have hcl : c < C.length := by omega
     obtain ⟨ky, hky⟩ : ∃ ky, ky = l[i].f2 := ⟨_, rfl⟩
     rw [rdT_get l hlt, Int.toNat_natCast] at y0 y1 y2
     rw [hc] at y0
     rw [← hky] at y2
     obtain ⟨zc, zf⟩ := HW.out.drew.cell hcl
     obtain ⟨dc, hdc⟩ : ∃ dc, dc = rd D (c : Int) := ⟨_, rfl⟩
     rw [← hdc] at zc
     obtain ⟨m, hm⟩ : ∃ m, m = mn dc ky := ⟨_, rfl⟩
     have hmin : (if ky < dc then ky else dc) = m := by rw [hm]; rfl
     have e1 : (0 : Int) ≤ (c : Int) := by omega
     have e2 : (c : Int) < (C.length : Int) := by omega
     have HSI2 : Aside0 (SeedI W C l (D.set c m) (i + 1)) := ⟨HSI.out.next HBY.out HOK.out HW.out.len hlt hc hcl (by rw [hm, hdc, hky])⟩
     have HW2 : Aside0 (SpW w (wr.drew.setCell ⟨gd, c, none⟩ (.int .i64 m)) gb gd cd W H (some adC) ct C (D.set c m)) := ⟨HW.out.drew.set c m⟩
     have HI := Aside0.mk (And.intro hi (And.intro hgg hlt))
     clear y1 q0 q1 q2 q3 q4 q5 hc hcl hky hdc hm HW HSI hi hgg hlt
     go_wp2_with fail
     refine wp_region_still_tail 21 (by kernel_rfl) (by kernel_rfl) ?_
     simp only [List.take_succ_cons, List.take_zero, List.drop_succ_cons, List.drop_zero]
     change wpStill _ _ wr.drew _ _ _
     repeat still_step
     refine wpStill_nil ?_
     change wpList _ _ _ _ _ wr.drew
     go_wp2_with fail
     go_roundg (l.length - (i + 1))
     case measure => have := HI.out; omega
     case rel =>
      have hII := HI.out
      have hLL := HLL.out
      exact ⟨i + 1, _, by first | rfl | (rw [w64 (n := (i : Int) + 1) (by omega) (by omega)]; rfl), by omega, Nat.le_refl _, HW2, HSI2⟩
    ·obtain rfl : i = l.length := by omega
     have d1 : decide (((l.length : Nat) : Int) < (l.length : Int)) = false := by simp
     have HI0 : Aside0 (InvR W C l (distOf W C l) D) := ⟨⟨HW.out.len, fun j hj => (HSI.out.1 j hj).1, fun j hj => (HSI.out.1 j hj).2, fun x hx => HSI.out.2 x (by rw [List.take_of_length_le (Nat.le_refl _)]; exact hx)⟩⟩
     clear hi hgg hlt HSI
     go_wp2_with fail
     go_loopg [8] ((sumTo (fun j => rd D (j : Int)) C.length).toNat + 1) (fun gg v8 wr => ∃ (b : Bool) (D : List Int), v8 = .bool b ∧ (if b then (sumTo (fun j => rd D (j : Int)) C.length).toNat + 1 else 0) ≤ gg ∧ Aside0 (SpW w wr gb gd cd W H (some adC) ct C D) ∧ Aside0 (InvR W C l (distOf W C l) D) ∧ Aside0 (b = false → ∀ c : Nat, c < C.length → RelR W H C D c 4))
     case atStart => exact ⟨true, D, rfl, Nat.le_refl _, HW, HI0, ⟨fun e => by simp at e⟩⟩
     case round =>
      clear HW HI0 d1
      obtain ⟨b0, D0, hb0, hgg, HW0, HI0, HI1⟩ := hrel
      cases b0 with
      | false =>
       subst hb0
       go_wp2_with fail
       go_ret
       have e := refSpread_end HBY.out HOK.out HI0.out (HI1.out (by first | trivial | rfl))
       exact ⟨_, rfl, by rw [← e]; exact HW0.out.row, HW0.out.below⟩
      | true =>
       subst hb0
       have HGG : Aside0 ((sumTo (fun j => rd D0 (j : Int)) C.length).toNat + 1 ≤ gk) := ⟨hgg⟩
       have HP0 : Aside0 (PassR W H C l D0 D0 false 0) := ⟨⟨HI0.out, fun _ => ⟨rfl, fun c' hc' => by omega⟩, fun e => by simp at e⟩⟩
       clear hgg
       go_wp2_with fail
       go_loopg [8, 9] C.length (fun gg v8 v9 wr => ∃ (c : Nat) (b : Bool) (D : List Int), v9 = .int .i64 c ∧ v8 = .bool b ∧ c ≤ C.length ∧ C.length - c ≤ gg ∧ Aside0 (SpW w wr gb gd cd W H (some adC) ct C D) ∧ Aside0 (PassR W H C l D0 D b c))
       case atStart => exact ⟨0, false, D0, rfl, rfl, Nat.zero_le _, Nat.le_refl _, HW0, HP0⟩
       case round =>
        clear HW0 HP0
        obtain ⟨c, b, D, rfl, rfl, hi, hgg, HW, HP⟩ := hrel
        by_cases hlt : c < C.length
        ·have d1 : (c : Int) < (C.length : Int) := by omega
         have HI := Aside0.mk (And.intro hi (And.intro hgg hlt))
         have HQ : Aside0 (PassS W H C l D0 D b c 0) := ⟨HP.out.start⟩
         clear hi hgg hlt HP
         go_wp2_with fail
         go_loopg [8, 10] 4 (fun gg v8 v10 wr => ∃ (s : Nat) (b : Bool) (D : List Int), v10 = .int .i64 s ∧ v8 = .bool b ∧ s ≤ 4 ∧ 4 - s ≤ gg ∧ Aside0 (SpW w wr gb gd cd W H (some adC) ct C D) ∧ Aside0 (PassS W H C l D0 D b c s))
         case atStart => exact ⟨0, b, D, rfl, rfl, Nat.zero_le _, Nat.le_refl _, HW, HQ⟩
         case round =>
          clear HW HQ
          obtain ⟨s, b, D, rfl, rfl, hs4, hgg, HW, HQ⟩ := hrel
          by_cases hlt : s < 4
          ·have d0 : (s : Int) ≤ 3 := by omega
           have hcl := HI.out.2.2
           obtain ⟨cv, hcv⟩ : ∃ cv, cv = rd C (c : Int) := ⟨_, rfl⟩
           have tc := HCC.out wr HW.out.below c hcl
           rw [← hcv] at tc
           have b2 := cell_blk (j := 2) (u := .slice (some adC) C.length ct) HW.out.box rfl
           have ec0 : (0 : Int) ≤ (c : Int) := by omega
           have ec1 : (c : Int) < (C.length : Int) := by omega
           by_cases hw : cv = 255
           ·have ew : (cv != 255) = false := by simp [hw]
            have HQ2 : Aside0 (PassR W H C l D0 D b (c + 1)) := ⟨HQ.out.wall (by rw [← hcv]; exact hw)⟩
            clear hs4 hgg hlt hcl hcv hw
            go_wp2_with fail
            go_roundg (C.length - (c + 1))
            case measure => have := HI.out; omega
            case rel =>
             have hII := HI.out
             have hN := HN.out
             exact ⟨c + 1, b, D, by first | rfl | (rw [w64 (n := (c : Int) + 1) (by omega) (by omega)]; rfl), rfl, by omega, Nat.le_refl _, HW, HQ2⟩
           ·have ew : (cv != 255) = true := by simp [hw]
            have hwh := HWH.out
            have hstep : herdsmanref1_Step.f (295 + 5) W H (c : Int) (s : Int) = some (if OutE W H c s then -1 else nbS W c s) := step_val hwh.1 hwh.2.1 (by omega) (by omega) (by omega) 295
            have b0 := cell_blk (j := 0) (u := .int .i64 W) HW.out.box rfl
            have b1 := cell_blk (j := 1) (u := .int .i64 H) HW.out.box rfl
            by_cases ho : OutE W H c s
            ·rw [if_pos ho] at hstep
             have HZT := Aside0.mk hstep
             have HQ2 : Aside0 (PassS W H C l D0 D b c (s + 1)) := ⟨HQ.out.skip fun hn _ => absurd ho hn⟩
             have HI6 := Aside0.mk (And.intro hs4 (And.intro hgg hlt))
             clear hs4 hgg hlt hcl hcv hw hwh hstep ho
             go_wp2_with (go_at_call 64; refine (herdsmanref1_Step.calls 300 W H c s (-1) _ HZT.out).mono ?_; rintro e w2 ⟨rfl, ⟨nd, rfl⟩⟩; have HW2 := Aside0.mk (HW.out.drewN nd); have b2 := cell_blk (j := 2) (u := .slice (some adC) C.length ct) HW2.out.box rfl)
             go_quiet (fail)
             have HW3 := Aside0.mk (HW.out.drewN (nd + nq))
             go_wp2_with fail
             go_roundg (4 - (s + 1))
             case measure => have := HI6.out; omega
             case rel => exact ⟨s + 1, b, D, by first | rfl | (rw [w64 (n := (s : Int) + 1) (by omega) (by omega)]; rfl), rfl, by have := HI6.out; omega, Nat.le_refl _, HW3, HQ2⟩
            ·rw [if_neg ho] at hstep
             obtain ⟨p0, p1, p2⟩ := nb_in hwh.1 hwh.2.1 hwh.2.2 (show (0 : Int) ≤ (c : Int) by omega) (by omega) (show 0 ≤ (s : Int) ∧ (s : Int) ≤ 3 by omega) ho
             obtain ⟨j, hj⟩ : ∃ j : Nat, (j : Int) = nbS W c s := ⟨(nbS W c s).toNat, by omega⟩
             rw [← hj] at p0 p1 p2 hstep
             have hjl : j < C.length := by omega
             have HZT := Aside0.mk hstep
             obtain ⟨jv, hjv⟩ : ∃ jv, jv = rd C (j : Int) := ⟨_, rfl⟩
             have HCJ : Aside0 (∀ wx, Below w.heap.size w wx → wx.cell? (adC.add j) = some (.int .u8 jv)) := ⟨fun wx hx => by rw [hjv]; exact HCC.out wx hx j hjl⟩
             obtain ⟨dj, hdj⟩ : ∃ dj, dj = rd D (j : Int) := ⟨_, rfl⟩
             obtain ⟨dc, hdc⟩ : ∃ dc, dc = rd D (c : Int) := ⟨_, rfl⟩
             have HDC : Aside0 (∀ wx, SpW w wx gb gd cd W H (some adC) ct C D → wx.cell? ⟨gd, j, none⟩ = some (.int .i64 dj) ∧ wx.cell? ⟨gd, c, none⟩ = some (.int .i64 dc) ∧ wx.frozen? ⟨gd, c, none⟩ = false) := ⟨fun wx hx => ⟨by rw [hdj]; exact (hx.cell hjl).1, by rw [hdc]; exact (hx.cell hcl).1, (hx.cell hcl).2⟩⟩
             have hrj := HQ.out.inv.ge j hjl
             have hrj2 := HQ.out.inv.le j hjl
             have hrj3 := dist_range HBY.out HOK.out hjl
             have hrc := HQ.out.inv.le c hcl
             have hjb : 0 ≤ jv ∧ jv ≤ 255 := by rw [hjv, rd_get C hjl]; exact HBY.out _ (List.getElem_mem _)
             rw [← hdj] at hrj hrj2
             rw [← hdc] at hrc
             have ej0 : (0 : Int) ≤ (j : Int) := p0
             have ej1 : (j : Int) < (C.length : Int) := by omega
             have hINF : INF = 1099511627776 := rfl
             have HI6 := Aside0.mk (And.intro hs4 (And.intro hgg hlt))
             by_cases hjw : jv = 255
             ·have ew2 : (jv != 255) = false := by simp [hjw]
              have HQ2 : Aside0 (PassS W H C l D0 D b c (s + 1)) := ⟨HQ.out.skip fun _ hn => absurd (by rw [← hj, ← hjv]; exact hjw) hn⟩
              clear hs4 hgg hlt hcl hcv hw hwh hstep ho p0 p1 p2 hj hjl hjv hdj hdc hrj hrj2 hrj3 hrc hjb hINF hjw
              go_wp2_with (go_at_call 64; refine (herdsmanref1_Step.calls 300 W H c s j _ HZT.out).mono ?_; rintro e w2 ⟨rfl, ⟨nd, rfl⟩⟩)
              have HW2 := Aside0.mk (HW.out.drewN nd)
              generalize wr.drewN nd = w2 at *
              obtain ⟨zj, zc, zf⟩ := HDC.out w2 HW2.out
              have tj := HCJ.out w2 HW2.out.below
              have b2 := cell_blk (j := 2) (u := .slice (some adC) C.length ct) HW2.out.box rfl
              go_quiet (fail)
              have HW3 := Aside0.mk (HW2.out.drewN nq)
              go_wp2_with fail
              go_roundg (4 - (s + 1))
              case measure => have := HI6.out; omega
              case rel => exact ⟨s + 1, b, D, by first | rfl | (rw [w64 (n := (s : Int) + 1) (by omega) (by omega)]; rfl), rfl, by have := HI6.out; omega, Nat.le_refl _, HW3, HQ2⟩
             ·have ew2 : (jv != 255) = true := by simp [hjw]
              by_cases hinf : dj < 1099511627776
              ·have iw1 : IntKind.i64.wrap jv = jv := by rw [IntKind.wrap_i64]; omega
               have iw2 : IntKind.i64.wrap (dj + jv) = dj + jv := by rw [IntKind.wrap_i64]; omega
               by_cases hless : dj + jv < dc
               ·have HQ2 : Aside0 (PassS W H C l D0 (D.set c (dj + jv)) true c (s + 1)) := ⟨by rw [hdj, hjv]; exact HQ.out.less HBY.out HOK.out hcl (by rw [← hcv]; exact hw) hjl (by rw [← hjv]; exact hjw) p2 (by rw [← hdj, ← hjv, ← hdc]; exact hless) (s + 1)⟩
                clear hs4 hgg hlt hcl hcv hw hwh hstep ho p0 p1 p2 hj hjl hjv hdj hdc hrj hrj2 hrj3 hrc hjb hINF hjw
                go_wp2_with (go_at_call 64; refine (herdsmanref1_Step.calls 300 W H c s j _ HZT.out).mono ?_; rintro e w2 ⟨rfl, ⟨nd, rfl⟩⟩)
                have HW2 := Aside0.mk (HW.out.drewN nd)
                generalize wr.drewN nd = w2 at *
                obtain ⟨zj, zc, zf⟩ := HDC.out w2 HW2.out
                have tj := HCJ.out w2 HW2.out.below
                have b2 := cell_blk (j := 2) (u := .slice (some adC) C.length ct) HW2.out.box rfl
                go_quiet (fail)
                have HW3 := Aside0.mk (HW2.out.drewN nq)
                generalize w2.drewN nq = wr at *
                obtain ⟨zj, zc, zf⟩ := HDC.out _ HW3.out.drew
                have tj := HCJ.out _ HW3.out.drew.below
                have b2 := cell_blk (j := 2) (u := .slice (some adC) C.length ct) HW3.out.drew.box rfl
                go_wp2_with fail
                refine wp_region_still_tail 14 (by kernel_rfl) (by kernel_rfl) ?_
                simp only [List.take_succ_cons, List.take_zero, List.drop_succ_cons, List.drop_zero]
                change wpStill _ _ wr.drew _ _ _
                repeat still_step
                refine wpStill_nil ?_
                change wpList _ _ _ _ _ wr.drew
                go_wp2_with fail
                go_roundg (4 - (s + 1))
                case measure => have := HI6.out; omega
                case rel => exact ⟨s + 1, true, _, by first | rfl | (rw [w64 (n := (s : Int) + 1) (by omega) (by omega)]; rfl), rfl, by have := HI6.out; omega, Nat.le_refl _, ⟨HW3.out.drew.set c (dj + jv)⟩, HQ2⟩
               ·have hless2 : decide (dj + jv < dc) = false := decide_eq_false hless
                have HQ2 : Aside0 (PassS W H C l D0 D b c (s + 1)) := ⟨HQ.out.skip fun _ _ => by rw [← hj, ← hdj, ← hjv, ← hdc]; omega⟩
                clear hs4 hgg hlt hcl hcv hw hwh hstep ho p0 p1 p2 hj hjl hjv hdj hdc hrj hrj2 hrj3 hrc hjb hINF hjw
                go_wp2_with (go_at_call 64; refine (herdsmanref1_Step.calls 300 W H c s j _ HZT.out).mono ?_; rintro e w2 ⟨rfl, ⟨nd, rfl⟩⟩)
                have HW2 := Aside0.mk (HW.out.drewN nd)
                generalize wr.drewN nd = w2 at *
                obtain ⟨zj, zc, zf⟩ := HDC.out w2 HW2.out
                have tj := HCJ.out w2 HW2.out.below
                have b2 := cell_blk (j := 2) (u := .slice (some adC) C.length ct) HW2.out.box rfl
                go_quiet (fail)
                have HW3 := Aside0.mk (HW2.out.drewN nq)
                go_wp2_with fail
                go_roundg (4 - (s + 1))
                case measure => have := HI6.out; omega
                case rel => exact ⟨s + 1, b, D, by first | rfl | (rw [w64 (n := (s : Int) + 1) (by omega) (by omega)]; rfl), rfl, by have := HI6.out; omega, Nat.le_refl _, HW3, HQ2⟩
              ·have hinf2 : decide (dj < 1099511627776) = false := decide_eq_false hinf
               have HQ2 : Aside0 (PassS W H C l D0 D b c (s + 1)) := ⟨HQ.out.skip fun _ _ => by rw [← hj, ← hdj, ← hjv, ← hdc]; omega⟩
               clear hs4 hgg hlt hcl hcv hw hwh hstep ho p0 p1 p2 hj hjl hjv hdj hdc hrj hrj2 hrj3 hrc hjb hINF hjw
               go_wp2_with (go_at_call 64; refine (herdsmanref1_Step.calls 300 W H c s j _ HZT.out).mono ?_; rintro e w2 ⟨rfl, ⟨nd, rfl⟩⟩)
               have HW2 := Aside0.mk (HW.out.drewN nd)
               generalize wr.drewN nd = w2 at *
               obtain ⟨zj, zc, zf⟩ := HDC.out w2 HW2.out
               have tj := HCJ.out w2 HW2.out.below
               have b2 := cell_blk (j := 2) (u := .slice (some adC) C.length ct) HW2.out.box rfl
               go_quiet (fail)
               have HW3 := Aside0.mk (HW2.out.drewN nq)
               go_wp2_with fail
               go_roundg (4 - (s + 1))
               case measure => have := HI6.out; omega
               case rel => exact ⟨s + 1, b, D, by first | rfl | (rw [w64 (n := (s : Int) + 1) (by omega) (by omega)]; rfl), rfl, by have := HI6.out; omega, Nat.le_refl _, HW3, HQ2⟩
          ·obtain rfl : s = 4 := by omega
           have d0 : decide (((4 : Nat) : Int) ≤ 3) = false := rfl
           have HQ2 : Aside0 (PassR W H C l D0 D b (c + 1)) := ⟨HQ.out.fin⟩
           clear hs4 hgg hlt
           go_wp2_with fail
           go_roundg (C.length - (c + 1))
           case measure => have := HI.out; omega
           case rel =>
            have hII := HI.out
            have hN := HN.out
            exact ⟨c + 1, b, D, by first | rfl | (rw [w64 (n := (c : Int) + 1) (by omega) (by omega)]; rfl), rfl, by omega, Nat.le_refl _, HW, HQ2⟩
        ·obtain rfl : c = C.length := by omega
         have d1 : decide (((C.length : Nat) : Int) < (C.length : Int)) = false := by simp
         clear hi hgg hlt
         go_wp2_with fail
         go_roundg (if b then (sumTo (fun j => rd D (j : Int)) C.length).toNat + 1 else 0)
         case measure =>
          have h1 := HGG.out
          cases hb : b with
          | false => simp; omega
          | true =>
           have h2 := HP.out.yes hb
           have h3 := sumTo_nonneg (D := fun j => rd D (j : Int)) C.length (fun i hi => Int.le_trans (dist_range HBY.out HOK.out hi).1 (HP.out.inv.ge i hi))
           rw [if_pos rfl]
           omega
         case rel => exact ⟨b, D, rfl, Nat.le_refl _, HW, ⟨HP.out.inv⟩, ⟨fun e c' hc' => by rw [(HP.out.no e).1]; exact (HP.out.no e).2 c' hc'⟩⟩
open Classical in
noncomputable def refSpF (W H : Int) (C : List Int) (l : List Seed) : Option (List Int) := if (∀ x ∈ C, 0 ≤ x ∧ x ≤ 255) ∧ SeedsOk W H C l ∧ l.length ≤ 1000000 then some (distOf W C l) else none
theorem refSp_some {W H : Int} {C : List Int} {l : List Seed} (hb : ∀ x ∈ C, 0 ≤ x ∧ x ≤ 255) (h : SeedsOk W H C l) (hl : l.length ≤ 1000000) : refSpF W H C l = some (distOf W C l) := by
 unfold refSpF
 rw [if_pos ⟨hb, h, hl⟩]
theorem refSp_calls (W H : Int) (At : Option Addr) (ct : Nat) (C : List Int) (As : Option Addr) (cs : Nat) (l : List Seed) (r : List Int) (w : World) (hT : Kd.C (Kd.int .u8) w At C.length C) (hTc : C.length ≤ ct) (hS : Kd.C k90 w As l.length l) (hSc : l.length ≤ cs) (hr : refSpF W H C l = some r) :
  Calls Tryz.prog 83 #[.agg #[.int .i64 W, .int .i64 H, .slice At C.length ct], .slice As l.length cs] w fun e w' => ∃ v, e = .returned v ∧ Kd.R (Kd.int .i64) 3 w' w.heap.size (fun _ => True) v r ∧ Below w.heap.size w w' := by
 unfold refSpF at hr
 split at hr
 ·rename_i h
  obtain rfl := Option.some.inj hr
  exact spreadW_calls W H At ct C As cs l w hT hTc hS hSc h.1 h.2.1 h.2.2
 ·cases hr
end Go.Proofs.YthgehdembghdaaaGreat.P
