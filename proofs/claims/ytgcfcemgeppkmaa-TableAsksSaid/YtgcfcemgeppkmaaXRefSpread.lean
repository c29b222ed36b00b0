/-
 PLAIN: the document's distances, pass by pass, come to an end, and are the distances.
-/
import Derived.Test.YtgcfcemgeppkmaaXLawS
import Derived.Test.YtgcfcemgeppkmaaPx19
namespace Go.Proofs.Ytgcfcemgeppkmaa.P
open Go.RowKit Go.Proofs.YtgcfcemgeppkmaaW.PrintWords Go.Proofs.YtgcfcemgeppkmaaW.PrintLast Go.Proofs.YtgcfcemgeppkmaaW.PrintMore
open Go.Proofs.Ytgcfcemgeppkmaa.Dist
set_option linter.unusedVariables false
set_option linter.unusedSimpArgs false
theorem rd_setR (d : List Int) (i : Nat) (hi : i < d.length) (k : Int) (j : Nat) (hj : j < d.length) : rd (d.set i k) (j : Int) = if j = i then k else rd d (j : Int) := by
 rw [rd_get (d.set i k) (by simpa using hj), rd_get d hj]
 by_cases h : j = i
 ·subst h
  rw [if_pos rfl]
  simp
 ·rw [if_neg h, List.getElem_set_ne (Ne.symm h)]
theorem sumTo_setR (d : List Int) (i : Nat) (hi : i < d.length) (k : Int) (n : Nat) (hn : n ≤ d.length) : sumTo (fun j => rd (d.set i k) (j : Int)) n = sumTo (fun j => rd d (j : Int)) n + if i < n then k - rd d (i : Int) else 0 := by
 induction n with
 | zero => simp [sumTo]
 | succ n ih =>
  unfold sumTo
  rw [ih (by omega), rd_setR d i hi k n (by omega)]
  by_cases e : n = i
  ·subst e
   rw [if_neg (by omega), if_pos rfl, if_pos (by omega)]
   omega
  ·rw [if_neg e]
   by_cases h : i < n
   ·rw [if_pos h, if_pos (by omega)]; omega
   ·rw [if_neg h, if_neg (by omega)]; omega
structure InvR (W : Int) (C : List Int) (l : List Seed) (R D : List Int) : Prop where
 len : D.length = C.length
 ge : ∀ i : Nat, i < C.length → rd R i ≤ rd D i
 le : ∀ i : Nat, i < C.length → rd D i ≤ INF
 src : ∀ x, x ∈ l → rd D x.f0 ≤ x.f2
/-- Over the sides of one cell, up to one, nothing is to be made less. -/
def RelR (W H : Int) (C D : List Int) (c : Int) (n : Int) : Prop := rd C c ≠ 255 → ∀ s, 0 ≤ s → s < n → ¬ OutE W H c s → rd C (nbS W c s) ≠ 255 → rd D c ≤ rd D (nbS W c s) + rd C (nbS W c s)
theorem refSpread_end {W H : Int} {C : List Int} (hb : ∀ x ∈ C, 0 ≤ x ∧ x ≤ 255) {l : List Seed} (h : SeedsOk W H C l) {D : List Int} (hi : InvR W C l (distOf W C l) D) (hr : ∀ c : Nat, c < C.length → RelR W H C D c 4) : D = distOf W C l := by
 obtain ⟨a1, a2, a3, a4, a5, a6⟩ := h.1
 have hD := distOf_spec hb h
 have hU : (grT W C l).Upper (fun i => rd D i) := by
  intro i hil
  have hil' : i < C.length := hil
  refine ⟨hi.le i hil', fun ho => ⟨fun k hk => ?_, fun j hj hadj hoj => ?_⟩⟩
  ·obtain ⟨x, hx, hxi, rfl⟩ := hk
   show rd D (i : Int) ≤ x.f2
   rw [← hxi]
   exact hi.src x hx
  ·have hj' : j < C.length := hj
   obtain ⟨s, hs, hs', hje⟩ := nb_of ⟨a1, a2⟩ ⟨a3, a4⟩ a5 (show (0 : Int) ≤ (i : Int) by omega) (by omega) (show (0 : Int) ≤ (j : Int) by omega) (by omega) hadj
   have := hr i hil' ho s hs.1 (by omega) hs' (by rw [hje]; exact hoj)
   rw [hje] at this
   exact this
 have hle := Gr.le_of (fun j hj ho => (costs_pos hb h.1 l j hj ho).1) hU hD.2.2
 apply List.ext_getElem (by rw [hi.len, hD.1])
 intro i h1 h2
 have e1 := hle i (show i < C.length by rw [← hi.len]; exact h1)
 have e2 := hi.ge i (by rw [← hi.len]; exact h1)
 simp only [rd_get D h1, rd_get (distOf W C l) h2] at e1 e2
 omega
theorem refSpread_l2 {W H : Int} {C : List Int} (hb : ∀ x ∈ C, 0 ≤ x ∧ x ≤ 255) {l : List Seed} (h : SeedsOk W H C l) :
  ∀ (m : Nat) (D0 : List Int), InvR W C l (distOf W C l) D0 → sumTo (fun j => rd D0 (j : Int)) C.length ≤ (m : Int) → ∃ k, 10 ≤ k ∧ herdsmanref7_Spread.l2 k D0 true W H C = some (distOf W C l) := by
 obtain ⟨a1, a2, a3, a4, a5, a6⟩ := h.1
 have hm := mul_small ⟨a1, a2⟩ ⟨a3, a4⟩
 have hD := distOf_spec hb h
 intro m
 induction m using Nat.strongRecOn with
 | _ m IH =>
 intro D0 hI0 hs0
 have hnn : ∀ D, InvR W C l (distOf W C l) D → 0 ≤ sumTo (fun j => rd D (j : Int)) C.length := fun D hI => sumTo_nonneg _ (fun i hi => Int.le_trans (dist_range hb h hi).1 (hI.ge i hi))
 -- a pass, from a cell on
 have l3 : ∀ (d c : Nat) (D : List Int) (b : Bool), c + d = C.length → InvR W C l (distOf W C l) D → (b = false → D = D0 ∧ ∀ c' : Nat, c' < c → RelR W H C D0 c' 4) → (b = true → sumTo (fun j => rd D (j : Int)) C.length < sumTo (fun j => rd D0 (j : Int)) C.length) →
   ∃ k, 10 ≤ k ∧ herdsmanref7_Spread.l3 k D b (c : Int) W H C = some (distOf W C l) := by
  intro d
  induction d with
  | zero =>
   intro c D b hc hI hf ht
   cases b with
   | false =>
    obtain ⟨rfl, hr⟩ := hf rfl
    have e := refSpread_end hb h hI (fun c' hc' => hr c' (by omega))
    refine ⟨12, by omega, ?_⟩
    rw [herdsmanref7_Spread.l3, if_neg (by rw [hI.len]; omega), herdsmanref7_Spread.l2, if_neg (by simp), ← e]
   | true =>
    have h1 := ht rfl
    have h2 := hnn D hI
    obtain ⟨k, hk, e⟩ := IH (sumTo (fun j => rd D (j : Int)) C.length).toNat (by omega) D hI (by omega)
    exact ⟨k + 1, by omega, by rw [herdsmanref7_Spread.l3, if_neg (by rw [hI.len]; omega)]; exact e⟩
  | succ d ih3 =>
   intro c D b hc hI hf ht
   have hcl : c < C.length := by omega
   have hcd : c < D.length := by rw [hI.len]; exact hcl
   -- the sides, from one on
   have l4 : ∀ (e : Nat) (s : Int) (D : List Int) (b : Bool), s + e = 4 → 0 ≤ s → InvR W C l (distOf W C l) D → (b = false → D = D0 ∧ (∀ c' : Nat, c' < c → RelR W H C D0 c' 4) ∧ RelR W H C D0 c s) → (b = true → sumTo (fun j => rd D (j : Int)) C.length < sumTo (fun j => rd D0 (j : Int)) C.length) →
     ∃ k, 10 ≤ k ∧ herdsmanref7_Spread.l4 k D b (c : Int) s W H C = some (distOf W C l) := by
    have next : ∀ (D : List Int) (b : Bool), InvR W C l (distOf W C l) D → (b = false → D = D0 ∧ (∀ c' : Nat, c' < c → RelR W H C D0 c' 4) ∧ RelR W H C D0 c 4) → (b = true → sumTo (fun j => rd D (j : Int)) C.length < sumTo (fun j => rd D0 (j : Int)) C.length) →
      ∀ s, ∃ k, 10 ≤ k ∧ herdsmanref7_Spread.j5 k D b (c : Int) s false W H C = some (distOf W C l) := by
     intro D b hI hf ht s
     obtain ⟨k, hk, e⟩ := ih3 (c + 1) D b (by omega) hI (fun hb' => ⟨(hf hb').1, fun c' hc' => by
      by_cases e : c' = c
      ·rw [e]; exact (hf hb').2.2
      ·exact (hf hb').2.1 c' (by omega)⟩) ht
     refine ⟨k + 1, by omega, ?_⟩
     rw [herdsmanref7_Spread.j5, if_neg (by simp), w64 (n := (c : Int) + 1) (by omega) (by omega)]
     exact e
    intro e
    induction e with
    | zero =>
     intro s D b hse hs0 hI hf ht
     obtain rfl : s = 4 := by omega
     obtain ⟨k, hk, e⟩ := next D b hI hf ht 4
     exact ⟨k + 1, by omega, by rw [herdsmanref7_Spread.l4, if_neg (by omega)]; exact e⟩
    | succ e ih4 =>
     intro s D b hse hs0 hI hf ht
     have hcd : c < D.length := by rw [hI.len]; exact hcl
     by_cases hw : rd C (c : Int) = 255
     ·obtain ⟨k, hk, e'⟩ := next D b hI (fun hb' => ⟨(hf hb').1, (hf hb').2.1, fun hn => absurd hw hn⟩) ht s
      refine ⟨k + 1, by omega, ?_⟩
      rw [herdsmanref7_Spread.l4, if_pos (by omega), if_pos (by omega), if_pos (by omega), show (rd C (c : Int) != 255) = false by simp [hw]]
      exact e'
     ·have hstep : ∀ k, 10 ≤ k → herdsmanref1_Step.f k W H (c : Int) s = some (if OutE W H c s then -1 else nbS W c s) := fun k hk => by
       obtain ⟨k, rfl⟩ : ∃ n, k = n + 5 := ⟨k - 5, by omega⟩
       exact step_val ⟨a1, a2⟩ ⟨a3, a4⟩ (by omega) (by omega) (by omega) k
      -- nothing to be made less over this side
      have hno : (b = false → ¬ OutE W H c s → rd C (nbS W c s) ≠ 255 → rd D c ≤ rd D (nbS W c s) + rd C (nbS W c s)) → ∀ n, ∃ k, 10 ≤ k ∧ herdsmanref7_Spread.j6 k D b (c : Int) s n false W H C = some (distOf W C l) := by
       intro hle n
       obtain ⟨k, hk, e'⟩ := ih4 (s + 1) D b (by omega) (by omega) hI (fun hb' => ⟨(hf hb').1, (hf hb').2.1, fun hn s' h1 h2 h3 h4 => by
        by_cases e : s' = s
        ·subst e
         have := hle hb' h3 h4
         rw [(hf hb').1] at this
         exact this
        ·exact (hf hb').2.2 hn s' h1 (by omega) h3 h4⟩) ht
       refine ⟨k + 1, by omega, ?_⟩
       rw [herdsmanref7_Spread.j6, if_neg (by simp), w64 (n := s + 1) (by omega) (by omega)]
       exact e'
      have hgo : ∀ b', (∃ k, 10 ≤ k ∧ herdsmanref7_Spread.j5 k D b (c : Int) s b' W H C = some (distOf W C l)) → b' = true → ∃ k, 10 ≤ k ∧ herdsmanref7_Spread.l4 k D b (c : Int) s W H C = some (distOf W C l) := by
       rintro b' ⟨k, hk, e'⟩ rfl
       refine ⟨k + 1, by omega, ?_⟩
       rw [herdsmanref7_Spread.l4, if_pos (by omega), if_pos (by omega), if_pos (by omega), show (rd C (c : Int) != 255) = true by simp [hw]]
       exact e'
      refine hgo true ?_ rfl
      by_cases ho : OutE W H c s
      ·obtain ⟨k, hk, e'⟩ := hno (fun _ h => absurd ho h) (-1)
       refine ⟨k + 1, by omega, ?_⟩
       rw [herdsmanref7_Spread.j5, if_pos rfl, hstep k hk, Option.bind_some, if_pos ho, if_neg (by omega)]
       exact e'
      ·obtain ⟨b0, b1, b2⟩ := nb_in ⟨a1, a2⟩ ⟨a3, a4⟩ a5 (show (0 : Int) ≤ (c : Int) by omega) (by omega) (show 0 ≤ s ∧ s ≤ 3 by omega) ho
       obtain ⟨j, hj⟩ : ∃ j : Nat, (j : Int) = nbS W c s := ⟨(nbS W c s).toNat, by omega⟩
       rw [← hj] at b0 b1 b2
       have hjl : j < C.length := by omega
       by_cases hjw : rd C (j : Int) = 255
       ·obtain ⟨k, hk, e'⟩ := hno (fun _ _ h => absurd (by rw [← hj]; exact hjw) h) (j : Int)
        refine ⟨k + 1, by omega, ?_⟩
        rw [herdsmanref7_Spread.j5, if_pos rfl, hstep k hk, Option.bind_some, if_neg ho, ← hj, if_pos (by omega), if_pos (by omega), if_pos (by omega), if_pos hjw]
        exact e'
       ·have hcost := costs_pos hb h.1 l j hjl hjw
        have hcost' : 1 ≤ rd C (j : Int) ∧ rd C (j : Int) ≤ 254 := hcost
        have hge := hI.ge j hjl
        have hdr := dist_range hb h hjl
        have hlej := hI.le j hjl
        have hlec := hI.le c hcl
        by_cases hinf : rd D (j : Int) < 1099511627776
        ·by_cases hlt : rd D (j : Int) + rd C (j : Int) < rd D (c : Int)
         ·-- made less
          have hup : rd (distOf W C l) c ≤ rd (distOf W C l) j + rd C j := ((hD.2.1 c hcl).2 hw).2 j hjl b2 hjw
          have hset : ∀ i : Nat, i < C.length → rd (D.set c (rd D (j : Int) + rd C (j : Int))) (i : Int) = if i = c then rd D (j : Int) + rd C (j : Int) else rd D (i : Int) := fun i hi => rd_setR D c hcd _ i (by rw [hI.len]; exact hi)
          have hI' : InvR W C l (distOf W C l) (D.set c (rd D (j : Int) + rd C (j : Int))) := by
           refine ⟨by rw [List.length_set]; exact hI.len, fun i hi => ?_, fun i hi => ?_, fun x hx => ?_⟩
           ·rw [hset i hi]
            split
            ·rename_i e; subst e; omega
            ·exact hI.ge i hi
           ·rw [hset i hi]
            split
            ·omega
            ·exact hI.le i hi
           ·obtain ⟨q0, q1, _⟩ := h.2 x hx
            have hx' := hI.src x hx
            obtain ⟨i, hi⟩ : ∃ i : Nat, x.f0 = (i : Int) := ⟨x.f0.toNat, by omega⟩
            rw [hi] at hx' ⊢
            rw [hset i (by omega)]
            split
            ·rename_i e; subst e; omega
            ·exact hx'
          have hsum := sumTo_setR D c hcd (rd D (j : Int) + rd C (j : Int)) C.length (by rw [hI.len]; omega)
          rw [if_pos hcl] at hsum
          obtain ⟨k, hk, e'⟩ := ih4 (s + 1) _ true (by omega) (by omega) hI' (fun hb' => by simp at hb') (fun _ => by
           rw [hsum]
           cases b with
           | false => rw [(hf rfl).1] at hlt ⊢; omega
           | true => have := ht rfl; omega)
          refine ⟨k + 2, by omega, ?_⟩
          rw [herdsmanref7_Spread.j5, if_pos rfl, hstep (k + 1) (by omega), Option.bind_some, if_neg ho, ← hj, if_pos (by omega), if_pos (by omega), if_pos (by omega), if_neg hjw, if_pos (by rw [hI.len]; omega), if_pos hinf, if_pos (by omega), if_pos (by omega), w64 (n := rd C (j : Int)) (by omega) (by omega), w64 (n := rd D (j : Int) + rd C (j : Int)) (by omega) (by omega), decide_eq_true hlt]
          rw [herdsmanref7_Spread.j6, if_pos rfl, if_pos (by omega), if_pos (by rw [hI.len]; omega), if_pos (by omega), if_pos (by omega), if_pos (by omega), w64 (n := rd C (j : Int)) (by omega) (by omega), w64 (n := rd D (j : Int) + rd C (j : Int)) (by omega) (by omega), w64 (n := s + 1) (by omega) (by omega), Int.toNat_natCast]
          exact e'
         ·obtain ⟨k, hk, e'⟩ := hno (fun _ _ _ => by rw [← hj]; omega) (j : Int)
          refine ⟨k + 1, by omega, ?_⟩
          rw [herdsmanref7_Spread.j5, if_pos rfl, hstep k hk, Option.bind_some, if_neg ho, ← hj, if_pos (by omega), if_pos (by omega), if_pos (by omega), if_neg hjw, if_pos (by rw [hI.len]; omega), if_pos hinf, if_pos (by omega), if_pos (by omega), w64 (n := rd C (j : Int)) (by omega) (by omega), w64 (n := rd D (j : Int) + rd C (j : Int)) (by omega) (by omega), decide_eq_false hlt]
          exact e'
        ·have hINF : INF = 1099511627776 := rfl
         obtain ⟨k, hk, e'⟩ := hno (fun _ _ _ => by rw [← hj]; omega) (j : Int)
         refine ⟨k + 1, by omega, ?_⟩
         rw [herdsmanref7_Spread.j5, if_pos rfl, hstep k hk, Option.bind_some, if_neg ho, ← hj, if_pos (by omega), if_pos (by omega), if_pos (by omega), if_neg hjw, if_pos (by rw [hI.len]; omega), if_neg hinf]
         exact e'
   obtain ⟨k, hk, e'⟩ := l4 4 0 D b (by omega) (by omega) hI (fun hb' => ⟨(hf hb').1, (hf hb').2, fun _ s h1 h2 => by omega⟩) ht
   exact ⟨k + 1, by omega, by rw [herdsmanref7_Spread.l3, if_pos (by omega)]; exact e'⟩
 obtain ⟨k, hk, e⟩ := l3 C.length 0 D0 false (by omega) hI0 (fun _ => ⟨rfl, fun c' hc' => by omega⟩) (fun hb' => by simp at hb')
 exact ⟨k + 1, by omega, by rw [herdsmanref7_Spread.l2, if_pos rfl]; exact e⟩
theorem refSpread_l1 {W H : Int} {C : List Int} (hb : ∀ x ∈ C, 0 ≤ x ∧ x ≤ 255) {l : List Seed} (h : SeedsOk W H C l) (hl : l.length ≤ 1000000) :
  ∀ (d i : Nat) (D : List Int), i + d = l.length → D.length = C.length → (∀ j : Nat, j < C.length → rd (distOf W C l) j ≤ rd D j ∧ rd D j ≤ INF) → (∀ x, x ∈ l.take i → rd D x.f0 ≤ x.f2) → ∃ k, 10 ≤ k ∧ herdsmanref7_Spread.l1 k l D (i : Int) W H C = some (distOf W C l) := by
 have hD := distOf_spec hb h
 intro d
 induction d with
 | zero =>
  intro i D hi hlen hD' hs
  have hI : InvR W C l (distOf W C l) D := ⟨hlen, fun j hj => (hD' j hj).1, fun j hj => (hD' j hj).2, fun x hx => hs x (by rw [List.take_of_length_le (by omega)]; exact hx)⟩
  obtain ⟨k, hk, e⟩ := refSpread_l2 hb h (sumTo (fun j => rd D (j : Int)) C.length).toNat D hI (by omega)
  exact ⟨k + 1, by omega, by rw [herdsmanref7_Spread.l1, if_neg (by omega)]; exact e⟩
 | succ d ih =>
  intro i D hi hlen hD' hs
  have hil : i < l.length := by omega
  obtain ⟨q0, q1, q2, q3, q4, _⟩ := h.2 l[i] (List.getElem_mem _)
  obtain ⟨c, hc⟩ : ∃ c : Nat, l[i].f0 = (c : Int) := ⟨l[i].f0.toNat, by omega⟩
  have hcl : c < C.length := by omega
  have hset : ∀ j : Nat, j < C.length → ∀ v, rd (D.set c v) (j : Int) = if j = c then v else rd D (j : Int) := fun j hj v => rd_setR D c (by omega) v j (by omega)
  have hup : rd (distOf W C l) c ≤ l[i].f2 := ((hD.2.1 c hcl).2 (by rw [hc] at q2; exact q2)).1 _ ⟨l[i], List.getElem_mem _, hc, rfl⟩
  have hmn : mn (rd D (c : Int)) l[i].f2 ≤ rd D (c : Int) ∧ mn (rd D (c : Int)) l[i].f2 ≤ l[i].f2 ∧ rd (distOf W C l) c ≤ mn (rd D (c : Int)) l[i].f2 := by
   have := (hD' c hcl).1
   unfold mn; split <;> omega
  obtain ⟨k, hk, e⟩ := ih (i + 1) (D.set c (mn (rd D (c : Int)) l[i].f2)) (by omega) (by rw [List.length_set]; exact hlen) (fun j hj => by
   rw [hset j hj]
   have := hD' j hj
   split
   ·rename_i e; subst e; omega
   ·exact this) (fun x hx => by
   rw [List.take_succ_eq_append_getElem hil, List.mem_append, List.mem_singleton] at hx
   rcases hx with hx | rfl
   ·obtain ⟨p0, p1, _⟩ := h.2 x (List.mem_of_mem_take hx)
    have hx' := hs x hx
    obtain ⟨j, hj⟩ : ∃ j : Nat, x.f0 = (j : Int) := ⟨x.f0.toNat, by omega⟩
    rw [hj] at hx' ⊢
    rw [hset j (by omega)]
    split
    ·rename_i e; subst e; omega
    ·exact hx'
   ·rw [hc, hset c hcl, if_pos rfl]; exact hmn.2.1)
  refine ⟨k + 1, by omega, ?_⟩
  rw [herdsmanref7_Spread.l1, if_pos (by omega), if_pos (by omega), rdT_get l hil, hc, if_pos (by omega), if_pos (by omega), w64 (n := (i : Int) + 1) (by omega) (by omega), Int.toNat_natCast]
  exact e
theorem refSpread_l0 {W H : Int} {C : List Int} (hb : ∀ x ∈ C, 0 ≤ x ∧ x ≤ 255) {l : List Seed} (h : SeedsOk W H C l) (hl : l.length ≤ 1000000) :
  ∀ (d i : Nat), i + d = C.length → ∃ k, 10 ≤ k ∧ herdsmanref7_Spread.l0 k l (List.replicate i INF) (i : Int) W H C = some (distOf W C l) := by
 obtain ⟨a1, a2, a3, a4, a5, a6⟩ := h.1
 have hm := mul_small ⟨a1, a2⟩ ⟨a3, a4⟩
 intro d
 induction d with
 | zero =>
  intro i hi
  obtain rfl : i = C.length := by omega
  obtain ⟨k, hk, e⟩ := refSpread_l1 hb h hl l.length 0 (List.replicate C.length INF) (by omega) (by simp) (fun j hj => by
   rw [rd_get (List.replicate C.length INF) (by simpa using hj), List.getElem_replicate]
   exact ⟨(dist_range hb h hj).2, Int.le_refl _⟩) (fun x hx => by simp at hx)
  exact ⟨k + 1, by omega, by rw [herdsmanref7_Spread.l0, if_neg (by omega)]; exact e⟩
 | succ d ih =>
  intro i hi
  obtain ⟨k, hk, e⟩ := ih (i + 1) (by omega)
  refine ⟨k + 1, by omega, ?_⟩
  rw [herdsmanref7_Spread.l0, if_pos (by omega), if_pos (by simp; omega), w64 (n := (i : Int) + 1) (by omega) (by omega), show List.replicate i INF ++ [1099511627776] = List.replicate (i + 1) INF from (List.replicate_succ' ).symm]
  exact e
/-- The document's distances are the distances. -/
theorem refSpread_some {W H : Int} {C : List Int} (hb : ∀ x ∈ C, 0 ≤ x ∧ x ≤ 255) {l : List Seed} (h : SeedsOk W H C l) (hl : l.length ≤ 1000000) : ∃ n, ∀ k, n ≤ k → herdsmanref7_Spread.f k W H C l = some (distOf W C l) := by
 obtain ⟨n, _, e⟩ := refSpread_l0 hb h hl C.length 0 (by omega)
 have e' : herdsmanref7_Spread.f n W H C l = some (distOf W C l) := e
 refine ⟨n, fun k hk => ?_⟩
 have : ∀ j, herdsmanref7_Spread.f (n + j) W H C l = some (distOf W C l) := by
  intro j
  induction j with
  | zero => exact e'
  | succ j ih => exact herdsmanref7_Spread.mono W H C l (n + j) _ ih
 obtain ⟨j, rfl⟩ : ∃ j, k = n + j := ⟨k - n, by omega⟩
 exact this j
end Go.Proofs.Ytgcfcemgeppkmaa.P
