/-
 PLAIN: a search within a sector, the nearest one first: what is known, what waits, and the end.
-/
import Derived.Test.YthgehdembghdaaaGreatXFlat1
import Derived.Test.YthgehdembghdaaaGreatXHeap1
namespace Go.Proofs.YthgehdembghdaaaGreat.P
open Go.RowKit Go.Proofs.YthgehdembghdaaaGreatW.PrintWords Go.Proofs.YthgehdembghdaaaGreatW.PrintLast Go.Proofs.YthgehdembghdaaaGreatW.PrintMore
open Go.Proofs.YthgehdembghdaaaGreat.Geo Go.Proofs.YthgehdembghdaaaGreat.Dist
set_option linter.unusedVariables false
set_option linter.unusedSimpArgs false
variable {W H : Int} {C : List Int} {t : Int}
theorem sumTo_same {f g : Nat → Int} : ∀ n, (∀ i, i < n → f i = g i) → sumTo f n = sumTo g n := by
 intro n
 induction n with
 | zero => intro _; rfl
 | succ n ih => intro h; unfold sumTo; rw [ih (fun i hi => h i (by omega)), h n (by omega)]
theorem sumTo_one {f g : Nat → Int} {c : Nat} (h : ∀ i, i ≠ c → f i = g i) : ∀ n, c < n → sumTo f n + g c = sumTo g n + f c := by
 intro n
 induction n with
 | zero => intro hc; omega
 | succ n ih =>
  intro hc
  unfold sumTo
  by_cases e : c = n
  ·subst e
   rw [sumTo_same c (fun i hi => h i (by omega))]
   omega
  ·have := ih (by omega)
   have := h n (fun q => e q.symm)
   omega
def learn (M : Int → Option Int) (c d : Int) : Int → Option Int := fun v => if v = c then some d else M v
def unk (M : Int → Option Int) (n : Nat) : Int := sumTo (fun i => if (M (i : Int)).isSome then 0 else 1) n
theorem unk_nn (M : Int → Option Int) (n : Nat) : 0 ≤ unk M n := sumTo_nonneg n (fun i _ => by split <;> omega)
theorem unk_le (M : Int → Option Int) : ∀ n : Nat, unk M n ≤ n := by
 intro n
 induction n with
 | zero => exact Int.le_refl _
 | succ n ih =>
  show sumTo (fun i => if (M (i : Int)).isSome then (0 : Int) else 1) n + (if (M (n : Int)).isSome then 0 else 1) ≤ _
  have : sumTo (fun i => if (M (i : Int)).isSome then (0 : Int) else 1) n ≤ n := ih
  split <;> omega
theorem unk_learn {M : Int → Option Int} {c : Nat} {n : Nat} (hc : c < n) (d : Int) (hu : M (c : Int) = none) : unk (learn M (c : Int) d) n + 1 = unk M n := by
 have := sumTo_one (f := fun i => if (learn M (c : Int) d (i : Int)).isSome then (0 : Int) else 1) (g := fun i => if (M (i : Int)).isSome then (0 : Int) else 1) (c := c) (fun i hi => by
  have : ¬ (i : Int) = (c : Int) := by omega
  simp [learn, this]) n hc
 simp [learn, hu] at this
 unfold unk
 simp only [learn]
 omega
structure WithI (W H : Int) (C : List Int) (t : Int) (M : Int → Option Int) (l : List Heap.E) (c0 j : Int) : Prop where
 ok : MapOk W H C
 goal : 0 ≤ t ∧ t < W * H
 og : rd C t ≠ 255
 wait : ∀ e, e ∈ l → Two W H C e.2 t ∧ rd C e.2 ≠ 255 ∧ distN W H C (sec W t) e.2 t ≤ e.1 ∧ 0 ≤ e.1 ∧ e.1 ≤ 100000
 known : ∀ c d, M c = some d → Two W H C c t ∧ rd C c ≠ 255 ∧ d = distN W H C (sec W t) c t ∧ d < INF
 start : M t ≠ none ∨ ∃ e, e ∈ l ∧ e.2 = t ∧ e.1 ≤ 0
 next : ∀ c d, M c = some d → ∀ s, (0 ≤ s ∧ s ≤ 3) → (c = c0 → s < j) → ¬ OutE W H c s → sec W (nbS W c s) = sec W c → rd C (nbS W c s) ≠ 255 → M (nbS W c s) ≠ none ∨ ∃ e, e ∈ l ∧ e.2 = nbS W c s ∧ e.1 ≤ d + rd C c
variable {M : Int → Option Int} {l l' : List Heap.E} {c0 j : Int}
theorem WithI.first (ok : MapOk W H C) (goal : 0 ≤ t ∧ t < W * H) (og : rd C t ≠ 255) {l : List Heap.E} (hl : l.Perm [(0, t)]) : WithI W H C t (fun _ => none) l (-1) 4 where
 ok := ok
 goal := goal
 og := og
 wait := by
  intro e he
  obtain rfl : e = (0, t) := by simpa using hl.mem_iff.1 he
  have s0 := distN_self ok goal og
  exact ⟨⟨goal, goal, rfl, og⟩, og, by rw [s0]; exact Int.le_refl _, Int.le_refl _, by show (0 : Int) ≤ 100000; omega⟩
 known := fun c d q => by cases q
 start := .inr ⟨(0, t), hl.mem_iff.2 (by simp), rfl, Int.le_refl _⟩
 next := fun c d q => by cases q
theorem WithI.lower (h : WithI W H C t M l c0 4) : ∀ (n : Nat) (v : Int), Two W H C v t → distN W H C (sec W t) v t ≤ (n : Int) → distN W H C (sec W t) v t < INF → M v = none → ∃ e, e ∈ l ∧ e.1 ≤ distN W H C (sec W t) v t := by
 have key : ∀ (v : Int), Two W H C v t → distN W H C (sec W t) v t < INF → M v = none → (∀ d, (0 ≤ d ∧ d ≤ 3) → ¬ OutE W H v d → sec W (nbS W v d) = sec W v → rd C (nbS W v d) ≠ 255 → distN W H C (sec W t) v t = distN W H C (sec W t) (nbS W v d) t + rd C (nbS W v d) → M (nbS W v d) = none → ∃ e, e ∈ l ∧ e.1 ≤ distN W H C (sec W t) (nbS W v d) t) → ∃ e, e ∈ l ∧ e.1 ≤ distN W H C (sec W t) v t := by
  intro v q hf hu ih
  obtain ⟨d0, d1, e | ⟨ov, ⟨e1, e2⟩ | ⟨d, hd, ho, hs, on, e⟩⟩⟩ := distN_att h.ok q
  ·omega
  ·subst e1
   rcases h.start with z | ⟨e, he, _, hk⟩
   ·exact absurd hu z
   ·exact ⟨e, he, by omega⟩
  ·have nr := nb_rng h.ok.dim q.a.1 q.a.2 hd ho
   have c1 := rd_cost h.ok nr.1 nr.2
   have bk := back h.ok.dim q.a.1 q.a.2 hd ho
   cases hm : M (nbS W v d) with
   | none =>
    obtain ⟨e', he', hk⟩ := ih d hd ho hs on e hm
    exact ⟨e', he', by omega⟩
   | some dn =>
    obtain ⟨k1, k2, k3, k4⟩ := h.known _ _ hm
    rcases h.next _ _ hm (backS d) bk.1 (fun _ => by omega) bk.2.1 (by rw [bk.2.2, hs]) (by rw [bk.2.2]; exact ov) with z | ⟨e', he', _, hk⟩
    ·rw [bk.2.2] at z; exact absurd hu z
    ·exact ⟨e', he', by omega⟩
 intro n
 induction n with
 | zero =>
  intro v q hn hf hu
  refine key v q hf hu (fun d hd ho hs on e hm => ?_)
  have nr := nb_rng h.ok.dim q.a.1 q.a.2 hd ho
  have c1 := rd_cost h.ok nr.1 nr.2
  have := (distN_att h.ok (a := nbS W v d) (b := t) ⟨nr, q.b, by rw [hs, q.s], q.ob⟩).1
  omega
 | succ n ih =>
  intro v q hn hf hu
  refine key v q hf hu (fun d hd ho hs on e hm => ?_)
  have nr := nb_rng h.ok.dim q.a.1 q.a.2 hd ho
  have c1 := rd_cost h.ok nr.1 nr.2
  exact ih (nbS W v d) ⟨nr, q.b, by rw [hs, q.s], q.ob⟩ (by omega) (by omega) hm
theorem WithI.least (h : WithI W H C t M l c0 4) {k c : Int} (hm : (k, c) ∈ l) (hmin : ∀ e, e ∈ l → k ≤ e.1) (hu : M c = none) : k = distN W H C (sec W t) c t := by
 obtain ⟨q, oc, hd, h0, hb⟩ := h.wait _ hm
 have hd' : distN W H C (sec W t) c t ≤ k := hd
 have hb' : k ≤ 100000 := hb
 have d0 := (distN_att h.ok q).1
 obtain ⟨e, he, hk⟩ := h.lower (distN W H C (sec W t) c t).toNat c q (by omega) (by unfold INF; omega) hu
 have := hmin e he
 omega
theorem WithI.drop (h : WithI W H C t M l c0 4) {k c : Int} (hl : ((k, c) :: l').Perm l) (hn : M c ≠ none) : WithI W H C t M l' c0 4 where
 ok := h.ok
 goal := h.goal
 og := h.og
 wait := fun e he => h.wait e (hl.mem_iff.1 (List.mem_cons_of_mem _ he))
 known := h.known
 start := by
  rcases h.start with z | ⟨e, he, h1, h2⟩
  ·exact .inl z
  ·rcases List.mem_cons.1 (hl.mem_iff.2 he) with rfl | he'
   ·exact .inl (by rw [← h1]; exact hn)
   ·exact .inr ⟨e, he', h1, h2⟩
 next := by
  intro v d hv s hs hj ho hsec on
  rcases h.next v d hv s hs hj ho hsec on with z | ⟨e, he, h1, h2⟩
  ·exact .inl z
  ·rcases List.mem_cons.1 (hl.mem_iff.2 he) with rfl | he'
   ·exact .inl (by rw [← h1]; exact hn)
   ·exact .inr ⟨e, he', h1, h2⟩
theorem WithI.known' (h : WithI W H C t M l c0 4) {k c : Int} (hl : ((k, c) :: l').Perm l) (hmin : ∀ e, e ∈ l → k ≤ e.1) (hu : M c = none) : WithI W H C t (learn M c k) l' c 0 where
 ok := h.ok
 goal := h.goal
 og := h.og
 wait := fun e he => h.wait e (hl.mem_iff.1 (List.mem_cons_of_mem _ he))
 known := by
  intro v d hv
  unfold learn at hv
  by_cases e : v = c
  ·rw [if_pos e] at hv
   injection hv with hv
   subst hv e
   have hm : (k, v) ∈ l := hl.mem_iff.1 (List.mem_cons_self ..)
   obtain ⟨q, oc, _, _, hb⟩ := h.wait _ hm
   have hb' : k ≤ 100000 := hb
   exact ⟨q, oc, h.least hm hmin hu, by unfold INF; omega⟩
  ·rw [if_neg e] at hv
   exact h.known v d hv
 start := by
  rcases h.start with z | ⟨e, he, h1, h2⟩
  ·left
   unfold learn
   split
   ·exact fun q => by cases q
   ·exact z
  ·rcases List.mem_cons.1 (hl.mem_iff.2 he) with rfl | he'
   ·left
    unfold learn
    rw [if_pos h1.symm]
    exact fun q => by cases q
   ·exact .inr ⟨e, he', h1, h2⟩
 next := by
  intro v d hv s hs hj ho hsec on
  by_cases e : v = c
  ·have := hj e
   omega
  ·have hv' : M v = some d := by
    unfold learn at hv
    rw [if_neg e] at hv
    exact hv
   rcases h.next v d hv' s hs (fun _ => by omega) ho hsec on with z | ⟨e', he, h1, h2⟩
   ·left
    unfold learn
    split
    ·exact fun q => by cases q
    ·exact z
   ·rcases List.mem_cons.1 (hl.mem_iff.2 he) with rfl | he'
    ·left
     unfold learn
     rw [if_pos h1.symm]
     exact fun q => by cases q
    ·exact .inr ⟨e', he', h1, h2⟩
theorem WithI.skip (h : WithI W H C t M l c0 j) (hn : ¬ (¬ OutE W H c0 j ∧ sec W (nbS W c0 j) = sec W c0 ∧ rd C (nbS W c0 j) ≠ 255)) : WithI W H C t M l c0 (j + 1) where
 ok := h.ok
 goal := h.goal
 og := h.og
 wait := h.wait
 known := h.known
 start := h.start
 next := by
  intro v d hv s hs hj ho hsec on
  by_cases e : v = c0 ∧ s = j
  ·obtain ⟨rfl, rfl⟩ := e
   exact absurd ⟨ho, hsec, on⟩ hn
  ·exact h.next v d hv s hs (fun q => by have := hj q; have : s ≠ j := fun r => e ⟨q, r⟩; omega) ho hsec on
theorem WithI.push (h : WithI W H C t M l c0 j) (hj : 0 ≤ j ∧ j ≤ 3) {d : Int} (hm : M c0 = some d) (ho : ¬ OutE W H c0 j) (hsec : sec W (nbS W c0 j) = sec W c0) (on : rd C (nbS W c0 j) ≠ 255) (hl : l'.Perm ((d + rd C c0, nbS W c0 j) :: l)) : WithI W H C t M l' c0 (j + 1) where
 ok := h.ok
 goal := h.goal
 og := h.og
 wait := by
  intro e he
  rcases List.mem_cons.1 (hl.mem_iff.1 he) with rfl | he'
  ·obtain ⟨q, oc, e1, e2⟩ := h.known _ _ hm
   have nr := nb_rng h.ok.dim q.a.1 q.a.2 hj ho
   have bk := back h.ok.dim q.a.1 q.a.2 hj ho
   have q2 : Two W H C (nbS W c0 j) t := ⟨nr, q.b, by rw [hsec, q.s], q.ob⟩
   have u := distN_up h.ok q2 bk.1 bk.2.1 (by rw [bk.2.2, hsec]) on (by rw [bk.2.2]; exact oc)
   rw [bk.2.2] at u
   have c1 := rd_cost h.ok q.a.1 q.a.2
   have tt := (distN_two h.ok q.a q.b q.s oc q.ob).2.2.2.2 (by omega)
   have d0 := (distN_att h.ok q).1
   exact ⟨q2, on, by show distN W H C (sec W t) (nbS W c0 j) t ≤ d + rd C c0; omega, by show 0 ≤ d + rd C c0; omega, by show d + rd C c0 ≤ 100000; omega⟩
  ·exact h.wait e he'
 known := h.known
 start := by
  rcases h.start with z | ⟨e, he, h1, h2⟩
  ·exact .inl z
  ·exact .inr ⟨e, hl.mem_iff.2 (List.mem_cons_of_mem _ he), h1, h2⟩
 next := by
  intro v d' hv s hs hj' ho' hsec' on'
  by_cases e : v = c0 ∧ s = j
  ·obtain ⟨rfl, rfl⟩ := e
   obtain rfl : d = d' := by rw [hm] at hv; exact Option.some.inj hv
   exact .inr ⟨_, hl.mem_iff.2 (List.mem_cons_self ..), rfl, Int.le_refl _⟩
  ·rcases h.next v d' hv s hs (fun q => by have := hj' q; have : s ≠ j := fun r => e ⟨q, r⟩; omega) ho' hsec' on' with z | ⟨e', he, h1, h2⟩
   ·exact .inl z
   ·exact .inr ⟨e', hl.mem_iff.2 (List.mem_cons_of_mem _ he), h1, h2⟩
open Classical in
noncomputable def withinF (W H : Int) (C : List Int) (t v : Int) : Option Int := if rd C t ≠ 255 ∧ (0 ≤ v ∧ v < W * H) ∧ sec W v = sec W t ∧ distN W H C (sec W t) v t < INF then some (distN W H C (sec W t) v t) else none
theorem WithI.fin (h : WithI W H C t M [] c0 4) (v : Int) : M v = withinF W H C t v := by
 unfold withinF
 by_cases q : rd C t ≠ 255 ∧ (0 ≤ v ∧ v < W * H) ∧ sec W v = sec W t ∧ distN W H C (sec W t) v t < INF
 ·rw [if_pos q]
  cases hm : M v with
  | none =>
   have q2 : Two W H C v t := ⟨q.2.1, h.goal, q.2.2.1, q.1⟩
   have d0 := (distN_att h.ok q2).1
   obtain ⟨e, he, _⟩ := h.lower (distN W H C (sec W t) v t).toNat v q2 (by omega) q.2.2.2 hm
   exact absurd he (List.not_mem_nil)
  | some d => exact congrArg some (h.known v d hm).2.2.1
 ·rw [if_neg q]
  cases hm : M v with
  | none => rfl
  | some d =>
   obtain ⟨k1, k2, k3, k4⟩ := h.known v d hm
   exact absurd ⟨h.og, k1.a, k1.s, by rw [← k3]; exact k4⟩ q
theorem within_wall (hw : rd C t = 255) (v : Int) : none = withinF W H C t v := by
 unfold withinF
 rw [if_neg (fun q => q.1 hw)]
end Go.Proofs.YthgehdembghdaaaGreat.P
