import Derived.Test.YthgehdembghdaaaGreatXWith1
import Derived.Test.YthgehdembghdaaaGreatXGeo
import Derived.Test.YthgehdembghdaaaGreatXNear
import Derived.Test.YthgehdembghdaaaGreatPx5
import Derived.Test.YthgehdembghdaaaGreatPx0
import Derived.Test.YthgehdembghdaaaGreatXLawS
import Derived.Deep.QuietTactic
import Derived.BigQuiet
import Derived.Deep.DeepCutAuto
import Derived.Deep.LoopGhost
import Derived.Deep.CutBlock
import Derived.Deep.RegionHeld3
import Derived.Test.YthgehdembghdaaaGreatPx24
import Derived.Deep.RegionLaw
namespace Go.Proofs.YthgehdembghdaaaGreat.P
open Go.RowKit Go.Proofs.YthgehdembghdaaaGreatW.PrintWords Go.Proofs.YthgehdembghdaaaGreatW.PrintLast Go.Proofs.YthgehdembghdaaaGreatW.PrintMore
open Go.Proofs.YthgehdembghdaaaGreat.Geo Go.Proofs.YthgehdembghdaaaGreat.Dist
set_option linter.unusedVariables false
set_option linter.unusedSimpArgs false
variable {s : GridS} {x : MeshS} {t : Int} {D r r' : List Int} {l l' : List Heap.E} {c0 : Int} {j : Nat}
def farN : Int := 2147483647
theorem rd_putL {r : List Int} {c : Nat} (hc : c < r.length) (k : Int) (v : Nat) : rd (r.set c k) (v : Int) = if v = c then k else rd r (v : Int) := by
 unfold rd
 rw [Int.toNat_natCast, List.getD_eq_getElem?_getD, List.getD_eq_getElem?_getD, List.getElem?_set]
 by_cases e : v = c
 ·subst e; simp [hc]
 ·rw [if_neg (fun q => e q.symm), if_neg e]
def sumR (r : List Int) : Int := sumTo (fun i => rd r (i : Int)) r.length
structure SrI (s : GridS) (x : MeshS) (D r : List Int) (l : List Heap.E) (c0 : Int) (j : Nat) : Prop where
 len : r.length = s.C.length
 rng : ∀ c : Nat, c < r.length → 0 ≤ rd r (c : Int) ∧ rd r (c : Int) ≤ farN
 node : ∀ c : Nat, c < r.length → rd r (c : Int) ≠ farN → isNode s x (c : Int) ∧ rd D (c : Int) ≤ rd r (c : Int)
 wait : ∀ e, e ∈ l → isNode s x e.2 ∧ rd r e.2 ≤ e.1 ∧ e.1 < farN
 edge : ∀ b, isNode s x b → rd r b ≠ farN → (∃ e, e ∈ l ∧ e.2 = b ∧ e.1 = rd r b) ∨ ∀ i, (hi : i < (intoM s x b).length) → (b = c0 → i < j) → rd r ((intoM s x b)[i]'hi).f0 ≤ rd r b + ((intoM s x b)[i]'hi).f1
 tot : (l.length : Int) + sumR r ≤ s.C.length * farN
theorem node_nat (hF : Fresh s x) {c : Int} (h : isNode s x c) : ∃ n : Nat, c = (n : Int) ∧ n < s.C.length := by
 have hc : 0 ≤ c ∧ c < s.W * s.H := h.1
 have := hF.ok.len
 exact ⟨c.toNat, by omega, by omega⟩
theorem sumR_far (n : Nat) : sumR (List.replicate n farN) = n * farN := by
 have : ∀ m, m ≤ n → sumTo (fun i => rd (List.replicate n farN) (i : Int)) m = m * farN := by
  intro m
  induction m with
  | zero => intro _; rfl
  | succ m ih =>
   intro hm
   unfold sumTo
   rw [ih (by omega), rd_get _ (by rw [List.length_replicate]; omega), List.getElem_replicate]
   unfold farN
   omega
 unfold sumR
 rw [List.length_replicate]
 exact this n (Nat.le_refl _)
theorem SrI.first (hF : Fresh s x) : SrI s x D (List.replicate s.C.length farN) [] (-1) 0 where
 len := by simp
 rng := fun c hc => by
  rw [rd_get _ hc, List.getElem_replicate]
  decide
 node := fun c hc q => by
  rw [rd_get _ hc, List.getElem_replicate] at q
  exact absurd rfl q
 wait := fun e he => absurd he (List.not_mem_nil)
 edge := by
  intro b hb q
  obtain ⟨n, rfl, hn⟩ := node_nat hF hb
  rw [rd_get _ (by simpa using hn), List.getElem_replicate] at q
  exact absurd rfl q
 tot := by
  rw [sumR_far]
  simp
theorem SrI.done (h : SrI s x D r l c0 j) (hj : (intoM s x c0).length ≤ j) : SrI s x D r l (-1) 0 :=
 ⟨h.len, h.rng, h.node, h.wait, fun b hb q => (h.edge b hb q).imp id (fun z i hi hq => z i hi (fun e => by subst e; omega)), h.tot⟩
theorem not_node (s : GridS) (x : MeshS) : ¬ isNode s x (-1) := fun q => by have := q.1.1; omega
theorem SrI.step (h : SrI s x D r l c0 j) (hj : j < (intoM s x c0).length) (hle : rd r ((intoM s x c0)[j]'hj).f0 ≤ rd r c0 + ((intoM s x c0)[j]'hj).f1) : SrI s x D r l c0 (j + 1) :=
 ⟨h.len, h.rng, h.node, h.wait, fun b hb q => by
  rcases h.edge b hb q with z | z
  ·exact .inl z
  ·refine .inr (fun i hi hq => ?_)
   by_cases e : b = c0 ∧ i = j
   ·obtain ⟨rfl, rfl⟩ := e
    exact hle
   ·exact z i hi (fun q => by have := hq q; have : i ≠ j := fun k => e ⟨q, k⟩; omega), h.tot⟩
theorem SrI.push (hF : Fresh s x) (h : SrI s x D r l c0 j) {c : Nat} {k : Int} (hc : isNode s x (c : Int)) (hk : k < rd r (c : Int)) (h0 : 0 ≤ k) (hD : rd D (c : Int) ≤ k) (hl : l'.Perm ((k, (c : Int)) :: l)) : SrI s x D (r.set c k) l' c0 j ∧ sumR (r.set c k) + 1 ≤ sumR r ∧ ∀ v : Nat, rd (r.set c k) (v : Int) ≤ rd r (v : Int) := by
 have hcl : c < r.length := by
  have := hc.1
  have : inC s (c : Int) := hc.1
  unfold inC at this
  have := hF.ok.len
  have := h.len
  omega
 have hs := rd_putL hcl k
 have hle : ∀ v : Nat, rd (r.set c k) (v : Int) ≤ rd r (v : Int) := by
  intro v
  rw [hs]
  split
  ·rename_i e; subst e; omega
  ·exact Int.le_refl _
 have hrc := h.rng c hcl
 have hsum : sumR (r.set c k) + rd r (c : Int) = sumR r + k := by
  unfold sumR
  rw [List.length_set]
  have := sumTo_one (f := fun i => rd (r.set c k) (i : Int)) (g := fun i => rd r (i : Int)) (c := c) (fun i hi => by rw [hs, if_neg hi]) r.length hcl
  have e : rd (r.set c k) (c : Int) = k := by rw [hs, if_pos rfl]
  simp only [e] at this
  exact this
 refine ⟨⟨by rw [List.length_set]; exact h.len, fun v hv => ?_, fun v hv q => ?_, fun e he => ?_, fun b hb q => ?_, ?_⟩, by omega, hle⟩
 ·rw [List.length_set] at hv
  rw [hs]
  split
  ·omega
  ·exact h.rng v hv
 ·rw [List.length_set] at hv
  rw [hs] at q ⊢
  by_cases e : v = c
  ·subst e
   rw [if_pos rfl]
   exact ⟨hc, hD⟩
  ·rw [if_neg e] at q ⊢
   exact h.node v hv q
 ·rcases List.mem_cons.1 (hl.mem_iff.1 he) with rfl | he'
  ·refine ⟨hc, ?_, by show k < farN; omega⟩
   show rd (r.set c k) (c : Int) ≤ k
   rw [hs, if_pos rfl]
   exact Int.le_refl _
  ·obtain ⟨w1, w2, w3⟩ := h.wait e he'
   obtain ⟨n, hn, _⟩ := node_nat hF w1
   have := hle n
   rw [hn] at w2 ⊢
   exact ⟨hn ▸ w1, by omega, w3⟩
 ·obtain ⟨n, rfl, hn⟩ := node_nat hF hb
  by_cases e : n = c
  ·subst e
   left
   refine ⟨(k, (n : Int)), hl.mem_iff.2 (List.mem_cons_self ..), rfl, ?_⟩
   rw [hs, if_pos rfl]
  ·rw [hs, if_neg e] at q ⊢
   rcases h.edge _ hb q with ⟨e', he', z1, z2⟩ | z
   ·exact .inl ⟨e', hl.mem_iff.2 (List.mem_cons_of_mem _ he'), z1, z2⟩
   ·refine .inr (fun i hi hq => ?_)
    have hz := z i hi hq
    have hin : inC s ((intoM s x (n : Int))[i]'hi).f0 := (into_back hF _ (List.getElem_mem hi)).1
    generalize (intoM s x (n : Int))[i]'hi = ed at *
    obtain ⟨m, hm⟩ : ∃ m : Nat, ed.f0 = (m : Int) := ⟨ed.f0.toNat, by have : 0 ≤ ed.f0 := hin.1; omega⟩
    have := hle m
    rw [hm] at hz ⊢
    omega
 ·have := h.tot
  have e := hl.length_eq
  rw [List.length_cons] at e
  rw [e]
  omega
theorem SrI.pop (h : SrI s x D r l (-1) 0) {k c : Int} (hl : ((k, c) :: l').Perm l) (hk : k = rd r c) : SrI s x D r l' c 0 where
 len := h.len
 rng := h.rng
 node := h.node
 wait := fun e he => h.wait e (hl.mem_iff.1 (List.mem_cons_of_mem _ he))
 edge := fun b hb q => by
  by_cases e : b = c
  ·exact .inr (fun i hi hq => by have := hq e; omega)
  ·rcases h.edge b hb q with ⟨e', he', z1, z2⟩ | z
   ·rcases List.mem_cons.1 (hl.mem_iff.2 he') with rfl | he2
    ·exact absurd z1.symm e
    ·exact .inl ⟨e', he2, z1, z2⟩
   ·exact .inr (fun i hi hq => z i hi (fun q => absurd (q ▸ hb) (not_node s x)))
 tot := by
  have := h.tot
  have e := hl.length_eq
  rw [List.length_cons] at e
  omega
theorem SrI.stale (h : SrI s x D r l (-1) 0) {k c : Int} (hl : ((k, c) :: l').Perm l) (hk : rd r c < k) : SrI s x D r l' (-1) 0 where
 len := h.len
 rng := h.rng
 node := h.node
 wait := fun e he => h.wait e (hl.mem_iff.1 (List.mem_cons_of_mem _ he))
 edge := fun b hb q => by
  rcases h.edge b hb q with ⟨e', he', z1, z2⟩ | z
  ·rcases List.mem_cons.1 (hl.mem_iff.2 he') with rfl | he2
   ·have z1' : c = b := z1
    have z2' : k = rd r b := z2
    rw [← z1'] at z2'
    omega
   ·exact .inl ⟨e', he2, z1, z2⟩
  ·exact .inr z
 tot := by
  have := h.tot
  have e := hl.length_eq
  rw [List.length_cons] at e
  omega
noncomputable def routeD (s : GridS) (x : MeshS) (D : List Int) (c : Int) : Int := if isNode s x c ∧ rd D c ≠ INF then rd D c else farN
theorem SrI.fin (hF : Fresh s x) (hD : FlatD s.W s.H s.C t D) (hn : s.C.length ≤ 1048576) (h : SrI s x D r [] (-1) 0) (hs : ∀ a, isNode s x a → Two s.W s.H s.C a t → distN s.W s.H s.C (sec s.W t) a t < INF → rd r a ≤ distN s.W s.H s.C (sec s.W t) a t) : ∀ c : Nat, c < s.C.length → rd r (c : Int) = routeD s x D (c : Int) := by
 have hln := hF.ok.len
 have hsm : ∀ a, isNode s x a → rd D a ≠ INF → rd D a < farN := by
  intro a ha hf
  have := hD.small ha.1 hf
  unfold farN
  omega
 have key : ∀ (n : Nat) (a : Int), isNode s x a → rd D a ≤ (n : Int) → rd D a ≠ INF → rd r a ≤ rd D a := by
  intro n
  induction n with
  | zero =>
   intro a ha hle hf
   rcases edge_at hF hD ha hf with ⟨q, e⟩ | ⟨b, e, he, h1, h2, h3, h4⟩
   ·have := (distN_att hF.ok q).2.1
    rw [e]
    exact hs a ha q (by omega)
   ·have := (hD.rng h4).1
    omega
  | succ n ih =>
   intro a ha hle hf
   rcases edge_at hF hD ha hf with ⟨q, e⟩ | ⟨b, e, he, h1, h2, h3, h4⟩
   ·have := (distN_att hF.ok q).2.1
    rw [e]
    exact hs a ha q (by omega)
   ·have hb : isNode s x b := ((mem_into hF e).1 he).1
    have rb := hD.rng h4
    have ra := hD.rng ha.1
    have hbf : rd D b ≠ INF := by omega
    have hi := ih b hb (by omega) hbf
    have hlt := hsm b hb hbf
    rcases h.edge b hb (by unfold farN at *; omega) with ⟨e', he', _⟩ | z
    ·exact absurd he' (List.not_mem_nil)
    ·obtain ⟨i, hi2, hie⟩ := List.mem_iff_getElem.1 he
     have := z i hi2 (fun q => absurd (q ▸ hb) (not_node s x))
     rw [hie, h1] at this
     omega
 intro c hc
 have hcr : c < r.length := by rw [h.len]; exact hc
 unfold routeD
 by_cases q : isNode s x (c : Int) ∧ rd D (c : Int) ≠ INF
 ·rw [if_pos q]
  have r0 := hD.rng q.1.1
  have h1 := key (rd D (c : Int)).toNat (c : Int) q.1 (by omega) q.2
  have h2 := hsm _ q.1 q.2
  have h3 := (h.node c hcr (by omega)).2
  omega
 ·rw [if_neg q]
  by_cases e : rd r (c : Int) = farN
  ·exact e
  ·obtain ⟨n1, n2⟩ := h.node c hcr e
   have := h.rng c hcr
   have hf : rd D (c : Int) ≠ INF := by unfold farN at *; unfold INF; omega
   exact absurd ⟨n1, hf⟩ q
theorem within_D (hD : FlatD s.W s.H s.C t D) {v d : Int} (h : withinF s.W s.H s.C t v = some d) : rd D v ≤ d ∧ 0 ≤ d ∧ d ≤ 65024 := by
 unfold withinF at h
 split at h
 ·rename_i q
  injection h with h
  subst h
  have q2 : Two s.W s.H s.C v t := ⟨q.2.1, hD.goal, q.2.2.1, q.1⟩
  have := hD.via q2 q.2.2.2
  rw [hD.self q.1] at this
  obtain ⟨d0, d1, e | ⟨ov, _⟩⟩ := distN_att hD.ok q2
  ·omega
  ·have tt := (distN_two hD.ok q2.a q2.b q2.s ov q2.ob).2.2.2.2 (by omega)
   omega
 ·cases h
end Go.Proofs.YthgehdembghdaaaGreat.P
namespace Go.Proofs.YthgehdembghdaaaGreat.P
open Go.RowKit Go.Proofs.YthgehdembghdaaaGreatW.PrintWords Go.Proofs.YthgehdembghdaaaGreatW.PrintLast Go.Proofs.YthgehdembghdaaaGreatW.PrintMore
open Go.Proofs.YthgehdembghdaaaGreat.Geo Go.Proofs.YthgehdembghdaaaGreat.Dist
set_option linter.unusedVariables false
set_option linter.unusedSimpArgs false
variable {W H : Int} {C : List Int} {t : Int} {D d : List Int}
def OptS (W H : Int) (C d : List Int) (c s : Int) : Prop := rd C c ≠ 255 → ¬ OutE W H c s → rd C (nbS W c s) ≠ 255 → rd d (nbS W c s) < INF → rd d c ≤ rd d (nbS W c s) + rd C (nbS W c s)
structure FlI (W H : Int) (C : List Int) (t : Int) (D d : List Int) (ag : Bool) (i : Nat) (c0 s0 : Int) : Prop where
 len : d.length = C.length
 rng : ∀ c : Nat, c < d.length → rd D (c : Int) ≤ rd d (c : Int) ∧ rd d (c : Int) ≤ INF
 goal : rd d t = 0
 opt : ag = false → (∀ c : Nat, c < d.length → c < i → ∀ s, (0 ≤ s ∧ s ≤ 3) → OptS W H C d (c : Int) s) ∧ ∀ s, (0 ≤ s ∧ s < s0) → OptS W H C d c0 s
variable {ag : Bool} {i : Nat} {c0 s0 : Int}
theorem FlI.cell (h : FlI W H C t D d ag i c0 s0) (hD : FlatD W H C t D) {c : Int} (hc : 0 ≤ c ∧ c < W * H) : rd D c ≤ rd d c ∧ 0 ≤ rd d c ∧ rd d c ≤ INF := by
 obtain ⟨n, rfl⟩ : ∃ n : Nat, c = n := ⟨c.toNat, by omega⟩
 have := h.rng n (by have := h.len; have := hD.ok.len; omega)
 have := hD.rng hc
 omega
theorem FlI.first (hD : FlatD W H C t D) (ho : rd C t ≠ 255) {tn : Nat} (ht : t = tn) : FlI W H C t D ((List.replicate C.length INF).set tn 0) true 0 (-1) 0 where
 len := by simp
 rng := fun c hc => by
  have hc' : c < (List.replicate C.length INF).length := by simpa using hc
  have hg := hD.goal
  have hl := hD.ok.len
  rw [rd_putL (by simp; omega)]
  split
  ·rename_i e
   subst e
   rw [← ht, hD.self ho]
   exact ⟨Int.le_refl _, by decide⟩
  ·rw [rd_get _ hc', List.getElem_replicate]
   have := hD.rng (c := (c : Int)) ⟨by omega, by simp at hc'; omega⟩
   exact ⟨this.2, Int.le_refl _⟩
 goal := by
  have hg := hD.goal
  have hl := hD.ok.len
  rw [ht, rd_putL (by simp; omega), if_pos rfl]
 opt := fun q => by cases q
theorem FlI.pass (h : FlI W H C t D d ag i c0 s0) : FlI W H C t D d false 0 (-1) 0 := ⟨h.len, h.rng, h.goal, fun _ => ⟨fun c _ q => absurd q (Nat.not_lt_zero _), fun s q => by omega⟩⟩
theorem FlI.turn (h : FlI W H C t D d ag i (-1) 0) (c : Int) : FlI W H C t D d ag i c 0 := ⟨h.len, h.rng, h.goal, fun q => ⟨(h.opt q).1, fun s q => by omega⟩⟩
theorem FlI.over (h : FlI W H C t D d ag i c0 s0) (hc : i < d.length → c0 = (i : Int)) (hs : rd C c0 = 255 ∨ s0 = 4) : FlI W H C t D d ag (i + 1) (-1) 0 := by
 refine ⟨h.len, h.rng, h.goal, fun q => ⟨fun c hcl hci s hs4 => ?_, fun s q => by omega⟩⟩
 by_cases e : c = i
 ·subst e
  rw [← hc hcl]
  rcases hs with hw | hw
  ·exact fun q => absurd hw q
  ·exact (h.opt q).2 s (by omega)
 ·exact (h.opt q).1 c hcl (by omega) s hs4
theorem FlI.skip (h : FlI W H C t D d ag i c0 s0) (ho : OptS W H C d c0 s0) : FlI W H C t D d ag i c0 (s0 + 1) :=
 ⟨h.len, h.rng, h.goal, fun q => ⟨(h.opt q).1, fun s hs => by
  by_cases e : s = s0
  ·subst e; exact ho
  ·exact (h.opt q).2 s (by omega)⟩⟩
theorem FlI.less (h : FlI W H C t D d ag i c0 s0) (hD : FlatD W H C t D) {cn : Nat} (hcn : c0 = cn) (hc : cn < C.length) (hs : 0 ≤ s0 ∧ s0 ≤ 3) (oc : rd C c0 ≠ 255) (ho : ¬ OutE W H c0 s0) (on : rd C (nbS W c0 s0) ≠ 255) (hl : rd d (nbS W c0 s0) + rd C (nbS W c0 s0) < rd d c0) :
  FlI W H C t D (d.set cn (rd d (nbS W c0 s0) + rd C (nbS W c0 s0))) true i c0 (s0 + 1) ∧ sumR (d.set cn (rd d (nbS W c0 s0) + rd C (nbS W c0 s0))) + 1 ≤ sumR d := by
 have hlen := h.len
 have hcl : cn < d.length := by omega
 have hM := hD.ok.len
 have hc0 : 0 ≤ c0 ∧ c0 < W * H := by omega
 have nr := nb_rng hD.ok.dim hc0.1 hc0.2 hs ho
 have kc := h.cell hD hc0
 have kn := h.cell hD nr
 have up := hD.up hc0 hs ho oc on
 have cn1 := rd_cost hD.ok nr.1 nr.2
 have hv : rd D c0 ≤ rd d (nbS W c0 s0) + rd C (nbS W c0 s0) ∧ 0 ≤ rd d (nbS W c0 s0) + rd C (nbS W c0 s0) := by omega
 generalize rd d (nbS W c0 s0) + rd C (nbS W c0 s0) = v at *
 have hg : rd d t = 0 := h.goal
 have kt := h.cell hD hD.goal
 refine ⟨⟨by rw [List.length_set]; exact hlen, fun c hc2 => ?_, ?_, fun q => by cases q⟩, ?_⟩
 ·rw [List.length_set] at hc2
  rw [rd_putL hcl]
  split
  ·rename_i e
   subst e
   rw [← hcn]
   omega
  ·exact h.rng c hc2
 ·obtain ⟨tn, htn⟩ : ∃ tn : Nat, t = tn := ⟨t.toNat, by have := hD.goal; omega⟩
  rw [htn, rd_putL hcl]
  split
  ·rename_i e
   rw [← e, ← htn] at hcn
   rw [hcn, hg] at kc hl
   have := hD.rng nr
   omega
  ·rw [← htn]; exact hg
 ·unfold sumR
  rw [List.length_set]
  have := sumTo_one (f := fun i => rd (d.set cn v) (i : Int)) (g := fun i => rd d (i : Int)) (c := cn) (fun i hi => by rw [rd_putL hcl, if_neg hi]) d.length hcl
  have e : rd (d.set cn v) (cn : Int) = v := by rw [rd_putL hcl, if_pos rfl]
  simp only [e] at this
  rw [hcn] at hl
  omega
theorem FlI.sum (h : FlI W H C t D d ag i c0 s0) (hD : FlatD W H C t D) : 0 ≤ sumR d := sumTo_nonneg _ (fun j hj => by
 have := h.rng j hj
 have := hD.rng (c := (j : Int)) ⟨by omega, by have := hD.ok.len; have := h.len; omega⟩
 show 0 ≤ rd d (j : Int)
 omega)
theorem FlI.fin (h : FlI W H C t D d false i (-1) 0) (hD : FlatD W H C t D) (hi : d.length ≤ i) : d = D := by
 have hM := hD.ok.len
 have hlen := h.len
 have hu : (grT W C [⟨t, 4, 0⟩]).Upper (fun i => rd d (i : Int)) := by
  intro j hj
  have hj' : j < C.length := hj
  have kj := h.rng j (by omega)
  refine ⟨kj.2, fun ho => ⟨fun k hk => ?_, fun l hl ha hol => ?_⟩⟩
  ·obtain ⟨x, hx, e0, e2⟩ := hk
   obtain rfl : x = ⟨t, 4, 0⟩ := by simpa using hx
   have e0' : t = (j : Int) := e0
   have e2' : (0 : Int) = k := e2
   show rd d (j : Int) ≤ k
   rw [← e0', h.goal, e2']
   exact Int.le_refl _
  ·have hl' : l < C.length := hl
   obtain ⟨s, hs, hno, hn⟩ := (adj_nb hD.ok.dim (c := (j : Int)) (j := (l : Int)) (by omega) (by omega) (by omega) (by omega)).1 ha
   have hol' : rd C (l : Int) ≠ 255 := hol
   have ho' : rd C (j : Int) ≠ 255 := ho
   show rd d (j : Int) ≤ rd d (l : Int) + rd C (l : Int)
   have kl := h.rng l (by omega)
   have cl := rd_cost hD.ok (c := (l : Int)) (by omega) (by omega)
   by_cases hf : rd d (l : Int) < INF
   ·have := (h.opt rfl).1 j (by omega) (by omega) s hs
    unfold OptS at this
    rw [← hn] at this
    exact this ho' hno hol' hf
   ·omega
 apply List.ext_getElem (by rw [hlen, hD.len])
 intro j h1 h2
 have a := Gr.le_of (fun j hj ho => (cost_pos hD.ok _ j hj ho).1) hu hD.gr.2 j (by show j < C.length; omega)
 have b := (h.rng j h1).1
 have a' : rd d (j : Int) ≤ rd D (j : Int) := a
 rw [rd_get d h1, rd_get D h2] at a' b
 omega
theorem flat_wall (hD : FlatD W H C t D) (hw : rd C t = 255) : D = List.replicate C.length INF := by
 have hM := hD.ok.len
 have hall : ∀ (n : Nat) (c : Int), 0 ≤ c ∧ c < W * H → rd D c ≤ (n : Int) → rd D c = INF := by
  intro n
  induction n with
  | zero =>
   intro c hc hn
   rcases hD.att hc with q | ⟨oc, ⟨rfl, _⟩ | ⟨s, hs, ho, on, e⟩⟩
   ·exact q
   ·exact absurd hw oc
   ·have nr := nb_rng hD.ok.dim hc.1 hc.2 hs ho
    have := rd_cost hD.ok nr.1 nr.2
    have := hD.rng nr
    omega
  | succ n ih =>
   intro c hc hn
   rcases hD.att hc with q | ⟨oc, ⟨rfl, _⟩ | ⟨s, hs, ho, on, e⟩⟩
   ·exact q
   ·exact absurd hw oc
   ·have nr := nb_rng hD.ok.dim hc.1 hc.2 hs ho
    have c1 := rd_cost hD.ok nr.1 nr.2
    have := ih _ nr (by omega)
    have := hD.rng hc
    omega
 apply List.ext_getElem (by rw [hD.len]; simp)
 intro j h1 h2
 have hj : j < C.length := by rw [← hD.len]; exact h1
 have r := hD.rng (c := (j : Int)) ⟨by omega, by omega⟩
 have := hall (rd D (j : Int)).toNat (j : Int) ⟨by omega, by omega⟩ (by omega)
 rw [rd_get D h1] at this
 rw [this, List.getElem_replicate]
end Go.Proofs.YthgehdembghdaaaGreat.P
namespace Go.Proofs.YthgehdembghdaaaGreat.P
open Go.RowKit Go.Proofs.YthgehdembghdaaaGreatW.PrintWords Go.Proofs.YthgehdembghdaaaGreatW.PrintLast Go.Proofs.YthgehdembghdaaaGreatW.PrintMore
open Go.Proofs.YthgehdembghdaaaGreat.Geo
set_option linter.unusedVariables false
set_option linter.unusedSimpArgs false
theorem mul_smallM {W H : Int} (h1 : 1 ≤ W ∧ W ≤ 40) (h2 : 1 ≤ H ∧ H ≤ 40) : 1 ≤ W * H ∧ W * H ≤ 1600 := by
 obtain ⟨a, b⟩ := h1
 obtain ⟨c, d⟩ := h2
 constructor
 ·have := Int.mul_le_mul a c (by omega) (by omega); omega
 ·have := Int.mul_le_mul b d (by omega) (by omega); omega
theorem made_loopM {W H : Int} (hW : 1 ≤ W ∧ W ≤ 40) (hH : 1 ≤ H ∧ H ≤ 40) (c : List Int) (hc : ∀ x ∈ c, 0 ≤ x ∧ x ≤ 255) (hcl : c.length ≤ 140737488355328) : ∀ (d k : Nat) (acc : List Int), (acc.length : Int) + d = W * H → d < k → (∀ x ∈ acc, 1 ≤ x ∧ x ≤ 255) →
  ∃ C, herdsmanref1_Made.l0 k c (acc.length : Int) W H acc = some (W, H, C) ∧ (C.length : Int) = W * H ∧ ∀ x ∈ C, 1 ≤ x ∧ x ≤ 255 := by
 have hm := mul_smallM hW hH
 intro d
 induction d with
 | zero =>
  intro k acc hl hk ha
  obtain ⟨k, rfl⟩ : ∃ m, k = m + 1 := ⟨k - 1, by omega⟩
  rw [herdsmanref1_Made.l0, w64 (n := W * H) (by omega) (by omega), if_neg (by omega)]
  exact ⟨acc, rfl, by omega, ha⟩
 | succ d ih =>
  intro k acc hl hk ha
  obtain ⟨k, rfl⟩ : ∃ m, k = m + 1 := ⟨k - 1, by omega⟩
  have hstep : ∀ r, 1 ≤ r ∧ r ≤ 255 → ∃ C, (if acc.length < 140737488355328 then (herdsmanref1_Made.l0 k c (wrap64 ((acc.length : Int) + 1)) W H (acc ++ [r])) else none) = some (W, H, C) ∧ (C.length : Int) = W * H ∧ ∀ x ∈ C, 1 ≤ x ∧ x ≤ 255 := by
   intro r hr
   rw [if_pos (by omega), w64 (by omega) (by omega)]
   have := ih k (acc ++ [r]) (by simp; omega) (by omega) (fun x hx => by
    rcases List.mem_append.1 hx with h | h
    ·exact ha x h
    ·rw [List.mem_singleton] at h; rw [h]; exact hr)
   simpa using this
  rw [herdsmanref1_Made.l0, w64 (n := W * H) (by omega) (by omega), if_pos (by omega)]
  by_cases h0 : 0 < c.length
  ·have hp := Int.ediv_nonneg (show 0 ≤ (acc.length : Int) by omega) (show 0 ≤ (c.length : Int) by omega)
   have hq := Int.ediv_le_self (c.length : Int) (show 0 ≤ (acc.length : Int) by omega)
   rw [if_pos (by omega), if_neg (by omega), tdiv_nn (by omega), w64 (n := (acc.length : Int) / c.length) (by omega) (by omega), w64 (n := (acc.length : Int) / c.length * 5) (by omega) (by omega), w64 (n := (acc.length : Int) + (acc.length : Int) / c.length * 5) (by omega) (by omega), tmod_nn (by omega)]
   have e0 := Int.emod_nonneg ((acc.length : Int) + (acc.length : Int) / c.length * 5) (show (c.length : Int) ≠ 0 by omega)
   have e1 := Int.emod_lt_of_pos ((acc.length : Int) + (acc.length : Int) / c.length * 5) (show 0 < (c.length : Int) by omega)
   generalize ((acc.length : Int) + (acc.length : Int) / c.length * 5) % c.length = j at *
   obtain ⟨j, rfl⟩ : ∃ n : Nat, j = (n : Int) := ⟨j.toNat, by omega⟩
   rw [if_pos e0, if_pos e1]
   have hj : j < c.length := by omega
   obtain ⟨r, hr, hr2⟩ := cost_some (hc (c[j]) (List.getElem_mem _))
   rw [rd_get c hj, hr, Option.bind_some]
   exact hstep r hr2
  ·rw [if_neg (by omega)]
   obtain ⟨r, hr, hr2⟩ := cost_some (a := 1) (by omega)
   rw [hr, Option.bind_some]
   exact hstep r hr2
theorem made_some (w h : Int) (c : List Int) (hc : ∀ x ∈ c, 0 ≤ x ∧ x ≤ 255) (hcl : c.length ≤ 140737488355328) : ∃ W H C, (∀ k, 2000 ≤ k → herdsmanref1_Made.f k w h c = some (W, H, C)) ∧ (1 ≤ W ∧ W ≤ 40) ∧ (1 ≤ H ∧ H ≤ 40) ∧ MapOk W H C := by
 have h1 := Int.emod_nonneg w (show (40 : Int) - 1 + 1 ≠ 0 by omega)
 have h2 := Int.emod_lt_of_pos w (show (0 : Int) < 40 - 1 + 1 by omega)
 have h3 := Int.emod_nonneg h (show (40 : Int) - 1 + 1 ≠ 0 by omega)
 have h4 := Int.emod_lt_of_pos h (show (0 : Int) < 40 - 1 + 1 by omega)
 have hW : 1 ≤ 1 + w % (40 - 1 + 1) ∧ 1 + w % (40 - 1 + 1) ≤ 40 := by omega
 have hH : 1 ≤ 1 + h % (40 - 1 + 1) ∧ 1 + h % (40 - 1 + 1) ≤ 40 := by omega
 have hm := mul_smallM hW hH
 obtain ⟨d, hd⟩ : ∃ d : Nat, (d : Int) = (1 + w % (40 - 1 + 1)) * (1 + h % (40 - 1 + 1)) := ⟨((1 + w % (40 - 1 + 1)) * (1 + h % (40 - 1 + 1))).toNat, by omega⟩
 obtain ⟨C, hC, hl, hb⟩ := made_loopM hW hH c hc hcl d 2000 [] (by rw [← hd]; simp) (by omega) (fun x hx => by simp at hx)
 refine ⟨_, _, C, fun k hk => ?_, hW, hH, ⟨⟨⟨hW.1, by omega⟩, hH.1, by omega⟩, hl, hb⟩⟩
 unfold herdsmanref1_Made.f
 rw [within_some w (by omega) (by omega) (by omega), within_some h (by omega) (by omega) (by omega), Option.bind_some, Option.bind_some]
 have hmono : ∀ n k, 2000 + n = k → herdsmanref1_Made.l0 k c 0 (1 + w % (40 - 1 + 1)) (1 + h % (40 - 1 + 1)) [] = some (1 + w % (40 - 1 + 1), 1 + h % (40 - 1 + 1), C) := by
  intro n
  induction n with
  | zero => rintro k rfl; exact hC
  | succ n ih => rintro k rfl; exact herdsmanref1_Made.mono_l (2000 + n) _ _ _ _ _ _ (ih _ rfl)
 exact hmono (k - 2000) k (by omega)
theorem rSectors {W H : Int} (h : Dim W H) : herdsmanref1_Sectors.f W H = some (acr W, acr H) := by
 have a := h.w
 have b := h.h
 unfold herdsmanref1_Sectors.f acr
 rw [refMay_some, Option.bind_some, decide_eq_true (by omega), if_pos rfl, w64 (n := W + 16) (by omega) (by omega), w64 (n := H + 16) (by omega) (by omega), show W + 16 - 1 = W + 15 by omega, show H + 16 - 1 = H + 15 by omega, w64 (n := W + 15) (by omega) (by omega), w64 (n := H + 15) (by omega) (by omega), tdiv_nn (by omega), tdiv_nn (by omega), w64 (by omega) (by omega), w64 (by omega) (by omega)]
end Go.Proofs.YthgehdembghdaaaGreat.P
namespace Go.Proofs.YthgehdembghdaaaGreat.P
open Go.RowKit Go.Proofs.YthgehdembghdaaaGreatW.PrintWords Go.Proofs.YthgehdembghdaaaGreatW.PrintLast Go.Proofs.YthgehdembghdaaaGreatW.PrintMore
open Go.Proofs.YthgehdembghdaaaGreat.Geo
set_option linter.unusedVariables false
set_option linter.unusedSimpArgs false
variable {W H : Int}
theorem rIsCell (h : Dim W H) (c : Int) : herdsmanref1_IsCell.f W H c = some (decide (0 ≤ c ∧ c < W * H)) := by
 have m := wh_le h
 have hw := h.w
 have hh := h.h
 unfold herdsmanref1_IsCell.f
 rw [refMay_some, Option.bind_some, decide_eq_true (by omega), if_pos rfl, w64 (n := W * H) (by omega) (by omega), w64 (n := W * H - 1) (by omega) (by omega), refIn_some, Option.bind_some]
 exact congrArg some (decide_eq_decide.2 (by omega))
theorem rSector (h : Dim W H) (c : Int) : herdsmanref1_Sector.f W H c = some (if 0 ≤ c ∧ c < W * H then sec W c else -1) := by
 unfold herdsmanref1_Sector.f
 rw [rIsCell h, Option.bind_some]
 by_cases hc : 0 ≤ c ∧ c < W * H
 ·have p := cell_xy h hc.1 hc.2
  have r := sec_rng h hc.1 hc.2
  have q := cnt_le h
  have hw := h.w
  have hh := h.h
  have b := acr_b h.w.1
  have b' := acr_le h.w.2
  have bh := acr_b h.h.1
  have bh' := acr_le h.h.2
  rw [decide_eq_true hc, if_pos rfl, if_pos hc, rSectors h, Option.bind_some]
  dsimp only
  have e1 : 0 ≤ c / W / 16 * acr W ∧ c / W / 16 * acr W ≤ 4096 := by
   have := r
   unfold sec at this
   have h0 : 0 ≤ c / W / 16 * acr W := Int.mul_nonneg (by omega) (by omega)
   omega
  rw [if_neg (by omega), tdiv_nn hc.1, w64 (n := c / W) (by omega) (by omega), tdiv_nn p.2.1, w64 (n := c / W / 16) (by omega) (by omega), w64 (n := c / W / 16 * acr W) (by omega) (by omega), tmod_nn hc.1, tdiv_nn p.1.1, w64 (n := c % W / 16) (by omega) (by omega), w64 (by omega) (by omega)]
  rfl
 ·rw [decide_eq_false hc, if_neg (by decide), if_neg hc]
theorem rStep (h : Dim W H) {c : Int} (h0 : 0 ≤ c) (h1 : c < W * H) {s : Int} (hs : 0 ≤ s ∧ s ≤ 3) (k : Nat) (hk : 10 ≤ k) : herdsmanref1_Step.f k W H c s = some (if OutE W H c s then -1 else nbS W c s) := by
 have a := h.w
 have b := h.h
 have m := wh_le h
 have p := cell_xy h h0 h1
 obtain ⟨k, rfl⟩ : ∃ q, k = q + 5 := ⟨k - 5, by omega⟩
 have key : ∀ x y : Int, (-1 ≤ x ∧ x ≤ W) → (-1 ≤ y ∧ y ≤ H) → (OutE W H c s → ¬ ((0 ≤ x ∧ x < W) ∧ 0 ≤ y ∧ y < H)) → (¬ OutE W H c s → nbS W c s % W = x ∧ nbS W c s / W = y) → herdsmanref1_Step.j4 (k + 1) W H x y = some (if OutE W H c s then -1 else nbS W c s) := by
  intro x y hx hy ho hn
  rw [herdsmanref1_Step.j4, w64 (n := W - 1) (by omega) (by omega), refIn_some, Option.bind_some]
  by_cases q : OutE W H c s
  ·rw [if_pos q]
   have hno := ho q
   by_cases qx : 0 ≤ x ∧ x ≤ W - 1
   ·rw [decide_eq_true qx, if_pos rfl, w64 (n := H - 1) (by omega) (by omega), refIn_some, Option.bind_some, decide_eq_false (by omega), if_neg (by decide)]
   ·rw [decide_eq_false qx, if_neg (by decide)]
  ·rw [if_neg q]
   have r := nb_rng h h0 h1 hs q
   have z := cell_xy h r.1 r.2
   obtain ⟨rfl, rfl⟩ := hn q
   have e := dm' (W := W) (nbS W c s)
   rw [decide_eq_true (by omega), if_pos rfl, w64 (n := H - 1) (by omega) (by omega), refIn_some, Option.bind_some, decide_eq_true (by omega), if_pos rfl]
   have h2 : 0 ≤ nbS W c s / W * W := Int.mul_nonneg (by omega) (by omega)
   rw [w64 (n := nbS W c s / W * W) (by omega) (by omega), e, w64 (by omega) (by omega)]
 unfold herdsmanref1_Step.f
 rw [rIsCell h, Option.bind_some, decide_eq_true ⟨h0, h1⟩, if_pos rfl, refIn_some, Option.bind_some, decide_eq_true (show 0 ≤ s ∧ s ≤ 4 by omega), herdsmanref1_Step.j0, if_neg (by decide), if_neg (by omega), tmod_nn h0, tdiv_nn h0, w64 (n := c / W) (by omega) (by omega)]
 rcases s4 hs with rfl | rfl | rfl | rfl
 ·rw [if_pos rfl, herdsmanref1_Step.j1, if_neg (by decide), herdsmanref1_Step.j2, if_neg (by decide), herdsmanref1_Step.j3, if_neg (by decide), w64 (by omega) (by omega)]
  exact key _ _ (by omega) (by omega) (fun q => by unfold OutE at q; omega) (fun q => by have := nb_xy h h0 h1 hs q; simpa [Int.sub_eq_add_neg] using this)
 ·rw [if_neg (by decide), herdsmanref1_Step.j1, if_pos rfl, herdsmanref1_Step.j2, if_neg (by decide), herdsmanref1_Step.j3, if_neg (by decide), w64 (n := c % W + 1) (by omega) (by omega)]
  exact key _ _ (by omega) (by omega) (fun q => by unfold OutE at q; omega) (fun q => by have := nb_xy h h0 h1 hs q; simpa [Int.sub_eq_add_neg] using this)
 ·rw [if_neg (by decide), herdsmanref1_Step.j1, if_neg (by decide), herdsmanref1_Step.j2, if_pos rfl, herdsmanref1_Step.j3, if_neg (by decide), w64 (n := c / W + 1) (by omega) (by omega)]
  exact key _ _ (by omega) (by omega) (fun q => by unfold OutE at q; omega) (fun q => by have := nb_xy h h0 h1 hs q; simpa [Int.sub_eq_add_neg] using this)
 ·rw [if_neg (by decide), herdsmanref1_Step.j1, if_neg (by decide), herdsmanref1_Step.j2, if_neg (by decide), herdsmanref1_Step.j3, if_pos rfl, w64 (n := c % W - 1) (by omega) (by omega)]
  exact key _ _ (by omega) (by omega) (fun q => by unfold OutE at q; omega) (fun q => by have := nb_xy h h0 h1 hs q; simpa [Int.sub_eq_add_neg] using this)
variable {C : List Int}
end Go.Proofs.YthgehdembghdaaaGreat.P
namespace Go.Proofs.YthgehdembghdaaaGreat.P
noncomputable section
open Go.RowKit Go.Proofs.YthgehdembghdaaaGreatW.PrintWords Go.Proofs.YthgehdembghdaaaGreatW.PrintLast Go.Proofs.YthgehdembghdaaaGreatW.PrintMore
attribute [local go_sem] max2_int min2_int max_two min_two max_three min_three max_four min_four   -- for this text's walks alone
set_option linter.unusedVariables false
set_option linter.unusedSimpArgs false
def herdsmanref11_Over.f (k : Nat) (a0 : Int) (a1 : Int) (a2 : Int) (a3 : Int) : Option (Int) := (herdsmanref1_In.f a3 0 3).bind fun t245 => (if t245 = true then ((herdsmanref1_Step.f k a0 a1 a2 a3).bind fun t246 => (if t246 < 0 then (some (-1)) else ((herdsmanref1_Sector.f a0 a1 t246).bind fun t247 => ((herdsmanref1_Sector.f a0 a1 a2).bind fun t248 => (if t247 = t248 then (some (-1)) else (some t246)))))) else (some (-1)))
set_option maxHeartbeats 8000000 in
set_option maxRecDepth 100000 in
theorem herdsmanref11_Over.calls (k : Nat) (a0 : Int) (a1 : Int) (a2 : Int) (a3 : Int) (r : Int) (w : World) (h : herdsmanref11_Over.f k a0 a1 a2 a3 = some r) :
  Calls Tryz.prog 90 #[.int .i64 a0, .int .i64 a1, .int .i64 a2, .int .i64 a3] w fun e w' => e = .returned (.int .i64 r) ∧ Drawn0 w w' := by
 have H : ((herdsmanref1_In.f a3 0 3).bind fun t245 => (if t245 = true then ((herdsmanref1_Step.f k a0 a1 a2 a3).bind fun t246 => (if t246 < 0 then (some (-1)) else ((herdsmanref1_Sector.f a0 a1 t246).bind fun t247 => ((herdsmanref1_Sector.f a0 a1 a2).bind fun t248 => (if t247 = t248 then (some (-1)) else (some t246)))))) else (some (-1)))) = some r := h
 clear h
 replace H := Option.bind_eq_some_iff.mp H
 obtain ⟨t245, A50, H⟩ := H
 replace H : (if t245 = true then ((herdsmanref1_Step.f k a0 a1 a2 a3).bind fun t246 => (if t246 < 0 then (some (-1)) else ((herdsmanref1_Sector.f a0 a1 t246).bind fun t247 => ((herdsmanref1_Sector.f a0 a1 a2).bind fun t248 => (if t247 = t248 then (some (-1)) else (some t246)))))) else (some (-1))) = some r := H
 have A5 := Aside0.mk A50
 clear A50
 by_cases c6 : t245 = true
 ·subst c6
  have H1 : ((herdsmanref1_Step.f k a0 a1 a2 a3).bind fun t246 => (if t246 < 0 then (some (-1)) else ((herdsmanref1_Sector.f a0 a1 t246).bind fun t247 => ((herdsmanref1_Sector.f a0 a1 a2).bind fun t248 => (if t247 = t248 then (some (-1)) else (some t246)))))) = some r := by rw [if_pos rfl] at H; exact H
  clear H
  have H := H1
  clear H1
  replace H := Option.bind_eq_some_iff.mp H
  obtain ⟨t246, A70, H⟩ := H
  replace H : (if t246 < 0 then (some (-1)) else ((herdsmanref1_Sector.f a0 a1 t246).bind fun t247 => ((herdsmanref1_Sector.f a0 a1 a2).bind fun t248 => (if t247 = t248 then (some (-1)) else (some t246))))) = some r := H
  have A7 := Aside0.mk A70
  clear A70
  by_cases c8 : t246 < 0
  ·rw [if_pos c8] at H
   have c8b0 : decide (t246 < 0) = true := decide_eq_true c8
   clear c8
   obtain rfl := Option.some.inj H
   go_enter Tryz.func90, Tryz.ntmps90
   go_wp2_with (first | ((with_reducible refine gate_callee (f := 56) rfl ?_); refine goesL_ (some 11) rfl rfl Tryz.func56 (by kernel_rfl) rfl #[.int .i64 a3, .int .i64 0, .int .i64 3] rfl (by (try simp only [List.map_toArray, List.map_cons, List.map_nil]); first | done | rfl | (simp only [List.length_drop, List.length_take]; rfl)) ?_; (with_reducible refine (herdsmanref1_In.calls a3 0 3 true _ A5.out).mono ?_); rintro e w' ⟨rfl, ⟨nd, rfl⟩⟩; refine ⟨_, rfl, ?_⟩) | ((with_reducible refine gate_callee (f := 64) rfl ?_); refine goesL_ (some 17) rfl rfl Tryz.func64 (by kernel_rfl) rfl #[.int .i64 a0, .int .i64 a1, .int .i64 a2, .int .i64 a3] rfl (by (try simp only [List.map_toArray, List.map_cons, List.map_nil]); first | done | rfl | (simp only [List.length_drop, List.length_take]; rfl)) ?_; (with_reducible refine (herdsmanref1_Step.calls k a0 a1 a2 a3 t246 _ A7.out).mono ?_); rintro e w' ⟨rfl, ⟨nd, rfl⟩⟩; refine ⟨_, rfl, ?_⟩))
   go_ret
   exact ⟨by first | rfl | (simp; done) | (simp [*]; done), by repeat (first | exact Drawn0.refl _ | apply Drawn0.step)⟩
  ·rw [if_neg c8] at H
   have c8b0 : decide (t246 < 0) = false := decide_eq_false c8
   clear c8
   replace H := Option.bind_eq_some_iff.mp H
   obtain ⟨t247, A90, H⟩ := H
   replace H : ((herdsmanref1_Sector.f a0 a1 a2).bind fun t248 => (if t247 = t248 then (some (-1)) else (some t246))) = some r := H
   have A9 := Aside0.mk A90
   clear A90
   replace H := Option.bind_eq_some_iff.mp H
   obtain ⟨t248, A100, H⟩ := H
   replace H : (if t247 = t248 then (some (-1)) else (some t246)) = some r := H
   have A10 := Aside0.mk A100
   clear A100
   by_cases c11 : t247 = t248
   ·rw [if_pos c11] at H
    have c11b0 : (t247 == t248) = true := beq_iff_eq.mpr c11
    have c11b1 : (t247 != t248) = false := bne_eq_false_iff_eq.mpr c11
    clear c11
    obtain rfl := Option.some.inj H
    go_enter Tryz.func90, Tryz.ntmps90
    go_wp2_with (first | ((with_reducible refine gate_callee (f := 56) rfl ?_); refine goesL_ (some 11) rfl rfl Tryz.func56 (by kernel_rfl) rfl #[.int .i64 a3, .int .i64 0, .int .i64 3] rfl (by (try simp only [List.map_toArray, List.map_cons, List.map_nil]); first | done | rfl | (simp only [List.length_drop, List.length_take]; rfl)) ?_; (with_reducible refine (herdsmanref1_In.calls a3 0 3 true _ A5.out).mono ?_); rintro e w' ⟨rfl, ⟨nd, rfl⟩⟩; refine ⟨_, rfl, ?_⟩) | ((with_reducible refine gate_callee (f := 64) rfl ?_); refine goesL_ (some 17) rfl rfl Tryz.func64 (by kernel_rfl) rfl #[.int .i64 a0, .int .i64 a1, .int .i64 a2, .int .i64 a3] rfl (by (try simp only [List.map_toArray, List.map_cons, List.map_nil]); first | done | rfl | (simp only [List.length_drop, List.length_take]; rfl)) ?_; (with_reducible refine (herdsmanref1_Step.calls k a0 a1 a2 a3 t246 _ A7.out).mono ?_); rintro e w' ⟨rfl, ⟨nd, rfl⟩⟩; refine ⟨_, rfl, ?_⟩) | (go_at_call 43; (try simp only [show ∀ n_ : Int, IntKind.i64.wrap n_ = wrap64 n_ from fun n_ => IntKind.wrap_i64 n_]); (with_reducible refine (herdsmanref1_Sector.calls a0 a1 t246 t247 _ A9.out).mono ?_); rintro e w' ⟨rfl, ⟨nd, rfl⟩⟩) | (go_at_call 43; (try simp only [show ∀ n_ : Int, IntKind.i64.wrap n_ = wrap64 n_ from fun n_ => IntKind.wrap_i64 n_]); (with_reducible refine (herdsmanref1_Sector.calls a0 a1 a2 t248 _ A10.out).mono ?_); rintro e w' ⟨rfl, ⟨nd, rfl⟩⟩))
    go_ret
    exact ⟨by first | rfl | (simp; done) | (simp [*]; done), by repeat (first | exact Drawn0.refl _ | apply Drawn0.step)⟩
   ·rw [if_neg c11] at H
    have c11b0 : (t247 == t248) = false := beq_eq_false_iff_ne.mpr c11
    have c11b1 : (t247 != t248) = true := bne_iff_ne.mpr c11
    obtain rfl := Option.some.inj H
    go_enter Tryz.func90, Tryz.ntmps90
    go_wp2_with (first | ((with_reducible refine gate_callee (f := 56) rfl ?_); refine goesL_ (some 11) rfl rfl Tryz.func56 (by kernel_rfl) rfl #[.int .i64 a3, .int .i64 0, .int .i64 3] rfl (by (try simp only [List.map_toArray, List.map_cons, List.map_nil]); first | done | rfl | (simp only [List.length_drop, List.length_take]; rfl)) ?_; (with_reducible refine (herdsmanref1_In.calls a3 0 3 true _ A5.out).mono ?_); rintro e w' ⟨rfl, ⟨nd, rfl⟩⟩; refine ⟨_, rfl, ?_⟩) | ((with_reducible refine gate_callee (f := 64) rfl ?_); refine goesL_ (some 17) rfl rfl Tryz.func64 (by kernel_rfl) rfl #[.int .i64 a0, .int .i64 a1, .int .i64 a2, .int .i64 a3] rfl (by (try simp only [List.map_toArray, List.map_cons, List.map_nil]); first | done | rfl | (simp only [List.length_drop, List.length_take]; rfl)) ?_; (with_reducible refine (herdsmanref1_Step.calls k a0 a1 a2 a3 t246 _ A7.out).mono ?_); rintro e w' ⟨rfl, ⟨nd, rfl⟩⟩; refine ⟨_, rfl, ?_⟩) | (go_at_call 43; (try simp only [show ∀ n_ : Int, IntKind.i64.wrap n_ = wrap64 n_ from fun n_ => IntKind.wrap_i64 n_]); (with_reducible refine (herdsmanref1_Sector.calls a0 a1 t246 t247 _ A9.out).mono ?_); rintro e w' ⟨rfl, ⟨nd, rfl⟩⟩) | (go_at_call 43; (try simp only [show ∀ n_ : Int, IntKind.i64.wrap n_ = wrap64 n_ from fun n_ => IntKind.wrap_i64 n_]); (with_reducible refine (herdsmanref1_Sector.calls a0 a1 a2 t248 _ A10.out).mono ?_); rintro e w' ⟨rfl, ⟨nd, rfl⟩⟩))
    go_ret
    exact ⟨by first | rfl | (simp; done) | (simp [*]; done), by repeat (first | exact Drawn0.refl _ | apply Drawn0.step)⟩
 ·replace c6 := Bool.eq_false_iff.mpr c6
  subst c6
  have H1 : (some (-1)) = some r := by rw [if_neg (show ¬ (false = true) by decide)] at H; exact H
  clear H
  have H := H1
  clear H1
  obtain rfl := Option.some.inj H
  go_enter Tryz.func90, Tryz.ntmps90
  go_wp2_with (first | ((with_reducible refine gate_callee (f := 56) rfl ?_); refine goesL_ (some 11) rfl rfl Tryz.func56 (by kernel_rfl) rfl #[.int .i64 a3, .int .i64 0, .int .i64 3] rfl (by (try simp only [List.map_toArray, List.map_cons, List.map_nil]); first | done | rfl | (simp only [List.length_drop, List.length_take]; rfl)) ?_; (with_reducible refine (herdsmanref1_In.calls a3 0 3 false _ A5.out).mono ?_); rintro e w' ⟨rfl, ⟨nd, rfl⟩⟩; refine ⟨_, rfl, ?_⟩))
  go_ret
  exact ⟨by first | rfl | (simp; done) | (simp [*]; done), by repeat (first | exact Drawn0.refl _ | apply Drawn0.step)⟩
end
end Go.Proofs.YthgehdembghdaaaGreat.P
namespace Go.Proofs.YthgehdembghdaaaGreat.P
noncomputable section
open Go.RowKit Go.Proofs.YthgehdembghdaaaGreatW.PrintWords Go.Proofs.YthgehdembghdaaaGreatW.PrintLast Go.Proofs.YthgehdembghdaaaGreatW.PrintMore
attribute [local go_sem] max2_int min2_int max_two min_two max_three min_three max_four min_four   -- for this text's walks alone
set_option linter.unusedVariables false
set_option linter.unusedSimpArgs false
def herdsmanref11_open.f (a0_0 : Int) (a0_1 : Int) (l0_2 : List Int) (a1 : Int) : Option (Bool) := if a1 ≥ 0 then (if a1 < (l0_2.length : Int) then (if 0 ≤ a1 then (some ((rd l0_2 a1) != 255)) else (none)) else (some false)) else (some false)
set_option maxHeartbeats 8000000 in
set_option maxRecDepth 100000 in
theorem herdsmanref11_open.calls (a0_0 : Int) (a0_1 : Int) (A0_2 : Option Addr) (c0_2 : Nat) (l0_2 : List Int) (a1 : Int) (r : Bool) (w : World) (hr0_2 : Kd.C (Kd.int .u8) w A0_2 l0_2.length l0_2) (hc0_2 : l0_2.length ≤ c0_2) (h : herdsmanref11_open.f a0_0 a0_1 l0_2 a1 = some r) :
  Calls Tryz.prog 77 #[.agg #[.int .i64 a0_0, .int .i64 a0_1, .slice A0_2 l0_2.length c0_2], .int .i64 a1] w fun e w' => e = .returned (.bool r) ∧ Below w.heap.size w w' := by
 have hu26 := Tryz.underlying26
 have HR0_2 := Aside0.mk hr0_2
 have HC0_2 := Aside0.mk hc0_2
 clear hr0_2 hc0_2
 have HB := Aside0.mk (Below.refl w.heap.size w)
 have H : (if a1 ≥ 0 then (if a1 < (l0_2.length : Int) then (if 0 ≤ a1 then (some ((rd l0_2 a1) != 255)) else (none)) else (some false)) else (some false)) = some r := h
 clear h
 by_cases c3 : a1 ≥ 0
 ·rw [if_pos c3] at H
  have c3b0 : decide (0 ≤ a1) = true := decide_eq_true c3
  clear c3
  by_cases c4 : a1 < (l0_2.length : Int)
  ·rw [if_pos c4] at H
   have c4b0 : decide (a1 < (l0_2.length : Int)) = true := decide_eq_true c4
   clear c4
   by_cases c5 : 0 ≤ a1
   ·rw [if_pos c5] at H
    have c5b0 : decide (0 ≤ a1) = true := decide_eq_true c5
    clear c5
    obtain rfl := Option.some.inj H
    go_enter Tryz.func77, Tryz.ntmps77
    go_wp2_with (first | ((with_reducible refine gate_dst (N := 2) rfl ?_); (try (refine gate_guard (by rfl) ?_; dsimp only)); refine box_event ?hg (N := 2) ?hd (cs := #[.int .i64 a0_0, .int .i64 a0_1, .slice A0_2 l0_2.length c0_2]) (t := 26) ?hr ?_; (case hd => rfl); (case hg => rfl); (case hr => first | (go_simp; done) | (go_simp; rfl)); intro gb256 hg w6 hbox hb; have n0_ := Aside0.mk (below_step (by repeat (first | (with_reducible first | exact HB.out | apply below_alloc | apply pw_below_drewN | apply below_drew1) | exact HB.out)) hb); have n1_ := Aside0.mk (hbox); have n2_ := Aside0.mk ((by rw [hg]; exact (below_size (by repeat (first | (with_reducible first | exact HB.out | apply below_alloc | apply pw_below_drewN | apply below_drew1) | exact HB.out))) : w.heap.size ≤ gb256)); have n3_ := Aside0.mk ((by rw [hg]; exact (below_size (by repeat (first | (with_reducible first | exact HB.out | apply below_alloc | apply pw_below_drewN | apply below_drew1) | exact HB.out))) : w.heap.size ≤ gb256)); clear HB; have HB := n0_; have BK256 := n1_; have GW256 := n2_; have GE256 := n3_; clear n0_ n1_ n2_ n3_; clear hb hbox hg; have hcz7_0 : w6.cell? ⟨gb256, 0, none⟩ = some (.int .i64 a0_0) := (blk_cell BK256.out 0).trans rfl; have hcz7_1 : w6.cell? ⟨gb256, 1, none⟩ = some (.int .i64 a0_1) := (blk_cell BK256.out 1).trans rfl; have hcz7_2 : w6.cell? ⟨gb256, 2, none⟩ = some (.slice A0_2 l0_2.length c0_2) := (blk_cell BK256.out 2).trans rfl; have hfz7_0 := blk_frozen BK256.out 0; have hfz7_1 := blk_frozen BK256.out 1; have hfz7_2 := blk_frozen BK256.out 2; have p257 : 0 ≤ (a1 : Int) := of_decide_eq_true (by first | (with_reducible assumption) | assumption); have q257 : a1 < (l0_2.length : Int) := of_decide_eq_true (by first | (with_reducible assumption) | assumption); obtain ⟨ad257, e257, hx257_0⟩ := Kd.at_int HR0_2.out a1 p257 q257; cases e257; replace hx257_0 := (HB.out.cell (World.block_lt_of_cell? w _ hx257_0)).trans hx257_0; replace p257 := eq_true p257; replace q257 := eq_true q257))
    go_ret
    exact ⟨by first | rfl | (simp [errW_none, errW_some] <;> rfl) | (simp [*, errW_none, errW_some] <;> rfl), by repeat (first | (with_reducible first | exact HB.out | apply below_alloc | apply pw_below_drewN | apply below_drew1 | refine below_set ?_ GE256.out) | exact HB.out)⟩
   ·rw [if_neg c5] at H
    exact absurd H (by simp)
  ·rw [if_neg c4] at H
   have c4b0 : decide (a1 < (l0_2.length : Int)) = false := decide_eq_false c4
   clear c4
   obtain rfl := Option.some.inj H
   go_enter Tryz.func77, Tryz.ntmps77
   go_wp2_with (first | ((with_reducible refine gate_dst (N := 2) rfl ?_); (try (refine gate_guard (by rfl) ?_; dsimp only)); refine box_event ?hg (N := 2) ?hd (cs := #[.int .i64 a0_0, .int .i64 a0_1, .slice A0_2 l0_2.length c0_2]) (t := 26) ?hr ?_; (case hd => rfl); (case hg => rfl); (case hr => first | (go_simp; done) | (go_simp; rfl)); intro gb256 hg w8 hbox hb; have n0_ := Aside0.mk (below_step (by repeat (first | (with_reducible first | exact HB.out | apply below_alloc | apply pw_below_drewN | apply below_drew1) | exact HB.out)) hb); have n1_ := Aside0.mk (hbox); have n2_ := Aside0.mk ((by rw [hg]; exact (below_size (by repeat (first | (with_reducible first | exact HB.out | apply below_alloc | apply pw_below_drewN | apply below_drew1) | exact HB.out))) : w.heap.size ≤ gb256)); have n3_ := Aside0.mk ((by rw [hg]; exact (below_size (by repeat (first | (with_reducible first | exact HB.out | apply below_alloc | apply pw_below_drewN | apply below_drew1) | exact HB.out))) : w.heap.size ≤ gb256)); clear HB; have HB := n0_; have BK256 := n1_; have GW256 := n2_; have GE256 := n3_; clear n0_ n1_ n2_ n3_; clear hb hbox hg; have hcz9_0 : w8.cell? ⟨gb256, 0, none⟩ = some (.int .i64 a0_0) := (blk_cell BK256.out 0).trans rfl; have hcz9_1 : w8.cell? ⟨gb256, 1, none⟩ = some (.int .i64 a0_1) := (blk_cell BK256.out 1).trans rfl; have hcz9_2 : w8.cell? ⟨gb256, 2, none⟩ = some (.slice A0_2 l0_2.length c0_2) := (blk_cell BK256.out 2).trans rfl; have hfz9_0 := blk_frozen BK256.out 0; have hfz9_1 := blk_frozen BK256.out 1; have hfz9_2 := blk_frozen BK256.out 2))
   go_ret
   exact ⟨by first | rfl | (simp [errW_none, errW_some] <;> rfl) | (simp [*, errW_none, errW_some] <;> rfl), by repeat (first | (with_reducible first | exact HB.out | apply below_alloc | apply pw_below_drewN | apply below_drew1 | refine below_set ?_ GE256.out) | exact HB.out)⟩
 ·rw [if_neg c3] at H
  have c3b0 : decide (0 ≤ a1) = false := decide_eq_false c3
  clear c3
  obtain rfl := Option.some.inj H
  go_enter Tryz.func77, Tryz.ntmps77
  go_wp2_with (first | ((with_reducible refine gate_dst (N := 2) rfl ?_); (try (refine gate_guard (by rfl) ?_; dsimp only)); refine box_event ?hg (N := 2) ?hd (cs := #[.int .i64 a0_0, .int .i64 a0_1, .slice A0_2 l0_2.length c0_2]) (t := 26) ?hr ?_; (case hd => rfl); (case hg => rfl); (case hr => first | (go_simp; done) | (go_simp; rfl)); intro gb256 hg w10 hbox hb; have n0_ := Aside0.mk (below_step (by repeat (first | (with_reducible first | exact HB.out | apply below_alloc | apply pw_below_drewN | apply below_drew1) | exact HB.out)) hb); have n1_ := Aside0.mk (hbox); have n2_ := Aside0.mk ((by rw [hg]; exact (below_size (by repeat (first | (with_reducible first | exact HB.out | apply below_alloc | apply pw_below_drewN | apply below_drew1) | exact HB.out))) : w.heap.size ≤ gb256)); have n3_ := Aside0.mk ((by rw [hg]; exact (below_size (by repeat (first | (with_reducible first | exact HB.out | apply below_alloc | apply pw_below_drewN | apply below_drew1) | exact HB.out))) : w.heap.size ≤ gb256)); clear HB; have HB := n0_; have BK256 := n1_; have GW256 := n2_; have GE256 := n3_; clear n0_ n1_ n2_ n3_; clear hb hbox hg))
  go_ret
  exact ⟨by first | rfl | (simp [errW_none, errW_some] <;> rfl) | (simp [*, errW_none, errW_some] <;> rfl), by repeat (first | (with_reducible first | exact HB.out | apply below_alloc | apply pw_below_drewN | apply below_drew1 | refine below_set ?_ GE256.out) | exact HB.out)⟩
end
end Go.Proofs.YthgehdembghdaaaGreat.P
namespace Go.Proofs.YthgehdembghdaaaGreat.P
noncomputable section
open Go.RowKit Go.Proofs.YthgehdembghdaaaGreatW.PrintWords Go.Proofs.YthgehdembghdaaaGreatW.PrintLast Go.Proofs.YthgehdembghdaaaGreatW.PrintMore
attribute [local go_sem] max2_int min2_int max_two min_two max_three min_three max_four min_four   -- for this text's walks alone
set_option linter.unusedVariables false
set_option linter.unusedSimpArgs false
end
end Go.Proofs.YthgehdembghdaaaGreat.P
namespace Go.Proofs.YthgehdembghdaaaGreat.P
noncomputable section
open Go.RowKit Go.Proofs.YthgehdembghdaaaGreatW.PrintWords Go.Proofs.YthgehdembghdaaaGreatW.PrintLast Go.Proofs.YthgehdembghdaaaGreatW.PrintMore
attribute [local go_sem] max2_int min2_int max_two min_two max_three min_three max_four min_four   -- for this text's walks alone
set_option linter.unusedVariables false
set_option linter.unusedSimpArgs false
end
end Go.Proofs.YthgehdembghdaaaGreat.P
namespace Go.Proofs.YthgehdembghdaaaGreat.P
noncomputable section
open Go.RowKit Go.Proofs.YthgehdembghdaaaGreatW.PrintWords Go.Proofs.YthgehdembghdaaaGreatW.PrintLast Go.Proofs.YthgehdembghdaaaGreatW.PrintMore
attribute [local go_sem] max2_int min2_int max_two min_two max_three min_three max_four min_four   -- for this text's walks alone
set_option linter.unusedVariables false
set_option linter.unusedSimpArgs false
def herdsmanref11_IsNode.l0 : Nat → Int → Int → Int → Int → List Int → Option (Bool)
 | 0, _, _, _, _, _ => none
 | k + 1, x1, x5, x297000, x297001, x297002 => if x5 ≤ 3 then ((herdsmanref11_Over.f k x297000 x297001 x1 x5).bind fun t298 => (if t298 ≥ 0 then (some true) else (herdsmanref11_IsNode.l0 k x1 (wrap64 (x5 + 1)) x297000 x297001 x297002))) else (some false)
def herdsmanref11_IsNode.f (k : Nat) (a0_0 : Int) (a0_1 : Int) (l0_2 : List Int) (a1 : Int) : Option (Bool) := (herdsmanref11_open.f a0_0 a0_1 l0_2 a1).bind fun t297 => (if t297 = true then (herdsmanref11_IsNode.l0 k a1 0 a0_0 a0_1 l0_2) else (some false))
set_option maxHeartbeats 8000000 in
set_option maxRecDepth 100000 in
theorem herdsmanref11_IsNode.calls (k : Nat) (a0_0 : Int) (a0_1 : Int) (A0_2 : Option Addr) (c0_2 : Nat) (l0_2 : List Int) (a1 : Int) (r : Bool) (w : World) (hr0_2 : Kd.C (Kd.int .u8) w A0_2 l0_2.length l0_2) (hc0_2 : l0_2.length ≤ c0_2) (h : herdsmanref11_IsNode.f k a0_0 a0_1 l0_2 a1 = some r) :
  Calls Tryz.prog 81 #[.agg #[.int .i64 a0_0, .int .i64 a0_1, .slice A0_2 l0_2.length c0_2], .int .i64 a1] w fun e w' => e = .returned (.bool r) ∧ Below w.heap.size w w' := by
 have hu26 := Tryz.underlying26
 have HR0_2 := Aside0.mk hr0_2
 have HC0_2 := Aside0.mk hc0_2
 clear hr0_2 hc0_2
 have HB := Aside0.mk (Below.refl w.heap.size w)
 have H : ((herdsmanref11_open.f a0_0 a0_1 l0_2 a1).bind fun t297 => (if t297 = true then (herdsmanref11_IsNode.l0 k a1 0 a0_0 a0_1 l0_2) else (some false))) = some r := h
 clear h
 replace H := Option.bind_eq_some_iff.mp H
 obtain ⟨t297, A30, H⟩ := H
 replace H : (if t297 = true then (herdsmanref11_IsNode.l0 k a1 0 a0_0 a0_1 l0_2) else (some false)) = some r := H
 have A3 := Aside0.mk A30
 clear A30
 by_cases c4 : t297 = true
 ·subst c4
  have H1 : (herdsmanref11_IsNode.l0 k a1 0 a0_0 a0_1 l0_2) = some r := by rw [if_pos rfl] at H; exact H
  clear H
  have H := H1
  clear H1
  have H' := Aside0.mk H
  clear H
  go_enter Tryz.func81, Tryz.ntmps81
  go_wp2_with (first | ((with_reducible refine gate_dst (N := 2) rfl ?_); refine box_event ?hg (N := 2) ?hd (cs := #[.int .i64 a0_0, .int .i64 a0_1, .slice A0_2 l0_2.length c0_2]) (t := 26) ?hr ?_; (case hd => rfl); (case hg => rfl); (case hr => first | (go_simp; done) | (go_simp; rfl)); intro gb296 hg w5 hbox hb; have n0_ := Aside0.mk (below_step (by repeat (first | (with_reducible first | exact HB.out | apply below_alloc | apply pw_below_drewN | apply below_drew1) | exact HB.out)) hb); have n1_ := Aside0.mk (hbox); have n2_ := Aside0.mk ((by rw [hg]; exact (below_size (by repeat (first | (with_reducible first | exact HB.out | apply below_alloc | apply pw_below_drewN | apply below_drew1) | exact HB.out))) : w.heap.size ≤ gb296)); have n3_ := Aside0.mk ((by rw [hg]; exact (below_size (by repeat (first | (with_reducible first | exact HB.out | apply below_alloc | apply pw_below_drewN | apply below_drew1) | exact HB.out))) : w.heap.size ≤ gb296)); clear HB; have HB := n0_; have BK296 := n1_; have GW296 := n2_; have GE296 := n3_; clear n0_ n1_ n2_ n3_; clear hb hbox hg; have hcz6_0 : w5.cell? ⟨gb296, 0, none⟩ = some (.int .i64 a0_0) := (blk_cell BK296.out 0).trans rfl; have hcz6_1 : w5.cell? ⟨gb296, 1, none⟩ = some (.int .i64 a0_1) := (blk_cell BK296.out 1).trans rfl; have hcz6_2 : w5.cell? ⟨gb296, 2, none⟩ = some (.slice A0_2 l0_2.length c0_2) := (blk_cell BK296.out 2).trans rfl; have hfz6_0 := blk_frozen BK296.out 0; have hfz6_1 := blk_frozen BK296.out 1; have hfz6_2 := blk_frozen BK296.out 2) | ((with_reducible refine gate_callee (f := 77) rfl ?_); refine goesL_ (some 8) rfl rfl Tryz.func77 (by kernel_rfl) rfl #[.agg #[.int .i64 a0_0, .int .i64 a0_1, .slice A0_2 l0_2.length c0_2], .int .i64 a1] rfl (by (try simp only [List.map_toArray, List.map_cons, List.map_nil]); first | done | rfl | (simp only [List.length_drop, List.length_take]; rfl)) ?_; (with_reducible refine (herdsmanref11_open.calls a0_0 a0_1 _ _ l0_2 a1 true _ ?side1 ?side2 A3.out).mono ?_); (case side1 => repeat (first | exact (Kd.C_below HR0_2.out HB.out) | (with_reducible refine Kd.C_alloc ?_ _) | (with_reducible refine Kd.C_drewN ?_ _) | (with_reducible refine Kd.C_drew ?_))); (case side2 => exact HC0_2.out); rintro e w7 ⟨rfl, hb⟩; refine ⟨_, rfl, ?_⟩; have n0_ := Aside0.mk (blk_below (g := gb296) (o := .cells #[.int .i64 a0_0, .int .i64 a0_1, .slice A0_2 l0_2.length c0_2] 26 (0, 0)) (by (with_reducible repeat (first | refine blk_drewN ?_ _ | refine blk_drew ?_ | refine blk_alloc ?_ _)); exact BK296.out) hb); have n1_ := Aside0.mk (below_step (by repeat (first | (with_reducible first | exact HB.out | apply below_alloc | apply pw_below_drewN | apply below_drew1 | refine below_set ?_ GE296.out) | exact HB.out)) hb); clear BK296; clear HB; have BK296 := n0_; have HB := n1_; clear n0_ n1_; (try clear hb); (try clear hb2); (try clear hk); (try clear hi)))
  go_loopg [5] k (fun kq v5 w' => ∃ (x5_1 : Int), v5 = .int .i64 x5_1 ∧ Aside0 (herdsmanref11_IsNode.l0 kq a1 x5_1 a0_0 a0_1 l0_2 = some r) ∧ Aside0 (kq ≤ k) ∧ Aside0 (w'.heap[gb296]? = some (.cells #[.int .i64 a0_0, .int .i64 a0_1, (.slice A0_2 l0_2.length c0_2)] 26 (0, 0))) ∧ Aside0 (Below w.heap.size w w'))
  case atStart => exact ⟨(0), (by first | rfl | (simp; done) | (simp [*]; done)), H', ⟨Nat.le_refl _⟩, ⟨by (with_reducible repeat (first | refine blk_drewN ?_ _ | refine blk_drew ?_ | refine blk_alloc ?_ _)); exact BK296.out⟩, ⟨by repeat (first | (with_reducible first | exact HB.out | apply below_alloc | apply pw_below_drewN | apply below_drew1 | refine below_set ?_ GE296.out) | exact HB.out)⟩⟩
  case round =>
   clear H'
   try clear p2
   try clear c4
   try clear c7
   try clear hcz6_0
   try clear hcz6_1
   try clear hcz6_2
   try clear hfz6_0
   try clear hfz6_1
   try clear hfz6_2
   obtain ⟨x5_1, rfl, HA, HK1, BK296, HB⟩ := hrel
   cases gk with
   | zero => exact absurd HA.out (by simp [herdsmanref11_IsNode.l0])
   | succ k1 =>
    have H := HA.out
    clear HA
    simp only [herdsmanref11_IsNode.l0] at H
    by_cases c8 : x5_1 ≤ 3
    ·rw [if_pos c8] at H
     have c8b0 : decide (x5_1 ≤ 3) = true := decide_eq_true c8
     clear c8
     replace H := Option.bind_eq_some_iff.mp H
     obtain ⟨t298, A90, H⟩ := H
     replace H : (if t298 ≥ 0 then (some true) else (herdsmanref11_IsNode.l0 k1 a1 (wrap64 (x5_1 + 1)) a0_0 a0_1 l0_2)) = some r := H
     have A9 := Aside0.mk A90
     clear A90
     by_cases c10 : t298 ≥ 0
     ·rw [if_pos c10] at H
      have c10b0 : decide (0 ≤ t298) = true := decide_eq_true c10
      clear c10
      obtain rfl := Option.some.inj H
      have hcz11_0 : wr.cell? ⟨gb296, 0, none⟩ = some (.int .i64 a0_0) := (blk_cell BK296.out 0).trans rfl
      have hcz11_1 : wr.cell? ⟨gb296, 1, none⟩ = some (.int .i64 a0_1) := (blk_cell BK296.out 1).trans rfl
      have hcz11_2 : wr.cell? ⟨gb296, 2, none⟩ = some (.slice A0_2 l0_2.length c0_2) := (blk_cell BK296.out 2).trans rfl
      have hfz11_0 := blk_frozen BK296.out 0
      have hfz11_1 := blk_frozen BK296.out 1
      have hfz11_2 := blk_frozen BK296.out 2
      go_wp2_with (first | ((with_reducible refine gate_callee (f := 90) rfl ?_); refine goesL_ (some 20) rfl rfl Tryz.func90 (by kernel_rfl) rfl #[.int .i64 a0_0, .int .i64 a0_1, .int .i64 a1, .int .i64 x5_1] rfl (by (try simp only [List.map_toArray, List.map_cons, List.map_nil]); first | done | rfl | (simp only [List.length_drop, List.length_take]; rfl)) ?_; (with_reducible refine (herdsmanref11_Over.calls k1 a0_0 a0_1 a1 x5_1 t298 _ A9.out).mono ?_); rintro e w' ⟨rfl, ⟨nd, rfl⟩⟩; refine ⟨_, rfl, ?_⟩))
      go_ret
      exact ⟨by first | rfl | (simp [errW_none, errW_some] <;> rfl) | (simp [*, errW_none, errW_some] <;> rfl), by repeat (first | (with_reducible first | exact HB.out | apply below_alloc | apply pw_below_drewN | apply below_drew1 | refine below_set ?_ GE296.out) | exact HB.out)⟩
     ·rw [if_neg c10] at H
      have c10b0 : decide (0 ≤ t298) = false := decide_eq_false c10
      clear c10
      have H' := Aside0.mk H
      clear H
      have hcz12_0 : wr.cell? ⟨gb296, 0, none⟩ = some (.int .i64 a0_0) := (blk_cell BK296.out 0).trans rfl
      have hcz12_1 : wr.cell? ⟨gb296, 1, none⟩ = some (.int .i64 a0_1) := (blk_cell BK296.out 1).trans rfl
      have hcz12_2 : wr.cell? ⟨gb296, 2, none⟩ = some (.slice A0_2 l0_2.length c0_2) := (blk_cell BK296.out 2).trans rfl
      have hfz12_0 := blk_frozen BK296.out 0
      have hfz12_1 := blk_frozen BK296.out 1
      have hfz12_2 := blk_frozen BK296.out 2
      go_wp2_with (first | ((with_reducible refine gate_callee (f := 90) rfl ?_); refine goesL_ (some 20) rfl rfl Tryz.func90 (by kernel_rfl) rfl #[.int .i64 a0_0, .int .i64 a0_1, .int .i64 a1, .int .i64 x5_1] rfl (by (try simp only [List.map_toArray, List.map_cons, List.map_nil]); first | done | rfl | (simp only [List.length_drop, List.length_take]; rfl)) ?_; (with_reducible refine (herdsmanref11_Over.calls k1 a0_0 a0_1 a1 x5_1 t298 _ A9.out).mono ?_); rintro e w' ⟨rfl, ⟨nd, rfl⟩⟩; refine ⟨_, rfl, ?_⟩))
      go_roundg k1
      case measure => have := HK1.out; omega
      case rel => exact ⟨(wrap64 (x5_1 + 1)), (by first | rfl | (simp; done) | (simp [*]; done)), H', ⟨by have := HK1.out; omega⟩, ⟨by (with_reducible repeat (first | refine blk_drewN ?_ _ | refine blk_drew ?_ | refine blk_alloc ?_ _)); exact BK296.out⟩, ⟨by repeat (first | (with_reducible first | exact HB.out | apply below_alloc | apply pw_below_drewN | apply below_drew1 | refine below_set ?_ GE296.out) | exact HB.out)⟩⟩
    ·rw [if_neg c8] at H
     have c8b0 : decide (x5_1 ≤ 3) = false := decide_eq_false c8
     clear c8
     obtain rfl := Option.some.inj H
     go_wp2
     go_ret
     exact ⟨by first | rfl | (simp [errW_none, errW_some] <;> rfl) | (simp [*, errW_none, errW_some] <;> rfl), by repeat (first | (with_reducible first | exact HB.out | apply below_alloc | apply pw_below_drewN | apply below_drew1 | refine below_set ?_ GE296.out) | exact HB.out)⟩
 ·replace c4 := Bool.eq_false_iff.mpr c4
  subst c4
  have H1 : (some false) = some r := by rw [if_neg (show ¬ (false = true) by decide)] at H; exact H
  clear H
  have H := H1
  clear H1
  obtain rfl := Option.some.inj H
  go_enter Tryz.func81, Tryz.ntmps81
  go_wp2_with (first | ((with_reducible refine gate_dst (N := 2) rfl ?_); refine box_event ?hg (N := 2) ?hd (cs := #[.int .i64 a0_0, .int .i64 a0_1, .slice A0_2 l0_2.length c0_2]) (t := 26) ?hr ?_; (case hd => rfl); (case hg => rfl); (case hr => first | (go_simp; done) | (go_simp; rfl)); intro gb296 hg w13 hbox hb; have n0_ := Aside0.mk (below_step (by repeat (first | (with_reducible first | exact HB.out | apply below_alloc | apply pw_below_drewN | apply below_drew1) | exact HB.out)) hb); have n1_ := Aside0.mk (hbox); have n2_ := Aside0.mk ((by rw [hg]; exact (below_size (by repeat (first | (with_reducible first | exact HB.out | apply below_alloc | apply pw_below_drewN | apply below_drew1) | exact HB.out))) : w.heap.size ≤ gb296)); have n3_ := Aside0.mk ((by rw [hg]; exact (below_size (by repeat (first | (with_reducible first | exact HB.out | apply below_alloc | apply pw_below_drewN | apply below_drew1) | exact HB.out))) : w.heap.size ≤ gb296)); clear HB; have HB := n0_; have BK296 := n1_; have GW296 := n2_; have GE296 := n3_; clear n0_ n1_ n2_ n3_; clear hb hbox hg; have hcz14_0 : w13.cell? ⟨gb296, 0, none⟩ = some (.int .i64 a0_0) := (blk_cell BK296.out 0).trans rfl; have hcz14_1 : w13.cell? ⟨gb296, 1, none⟩ = some (.int .i64 a0_1) := (blk_cell BK296.out 1).trans rfl; have hcz14_2 : w13.cell? ⟨gb296, 2, none⟩ = some (.slice A0_2 l0_2.length c0_2) := (blk_cell BK296.out 2).trans rfl; have hfz14_0 := blk_frozen BK296.out 0; have hfz14_1 := blk_frozen BK296.out 1; have hfz14_2 := blk_frozen BK296.out 2) | ((with_reducible refine gate_callee (f := 77) rfl ?_); refine goesL_ (some 8) rfl rfl Tryz.func77 (by kernel_rfl) rfl #[.agg #[.int .i64 a0_0, .int .i64 a0_1, .slice A0_2 l0_2.length c0_2], .int .i64 a1] rfl (by (try simp only [List.map_toArray, List.map_cons, List.map_nil]); first | done | rfl | (simp only [List.length_drop, List.length_take]; rfl)) ?_; (with_reducible refine (herdsmanref11_open.calls a0_0 a0_1 _ _ l0_2 a1 false _ ?side1 ?side2 A3.out).mono ?_); (case side1 => repeat (first | exact (Kd.C_below HR0_2.out HB.out) | (with_reducible refine Kd.C_alloc ?_ _) | (with_reducible refine Kd.C_drewN ?_ _) | (with_reducible refine Kd.C_drew ?_))); (case side2 => exact HC0_2.out); rintro e w15 ⟨rfl, hb⟩; refine ⟨_, rfl, ?_⟩; have n0_ := Aside0.mk (blk_below (g := gb296) (o := .cells #[.int .i64 a0_0, .int .i64 a0_1, .slice A0_2 l0_2.length c0_2] 26 (0, 0)) (by (with_reducible repeat (first | refine blk_drewN ?_ _ | refine blk_drew ?_ | refine blk_alloc ?_ _)); exact BK296.out) hb); have n1_ := Aside0.mk (below_step (by repeat (first | (with_reducible first | exact HB.out | apply below_alloc | apply pw_below_drewN | apply below_drew1 | refine below_set ?_ GE296.out) | exact HB.out)) hb); clear BK296; clear HB; have BK296 := n0_; have HB := n1_; clear n0_ n1_; (try clear hb); (try clear hb2); (try clear hk); (try clear hi)))
  go_ret
  exact ⟨by first | rfl | (simp [errW_none, errW_some] <;> rfl) | (simp [*, errW_none, errW_some] <;> rfl), by repeat (first | (with_reducible first | exact HB.out | apply below_alloc | apply pw_below_drewN | apply below_drew1 | refine below_set ?_ GE296.out) | exact HB.out)⟩
end
end Go.Proofs.YthgehdembghdaaaGreat.P
namespace Go.Proofs.YthgehdembghdaaaGreat.P
open Go.RowKit Go.Proofs.YthgehdembghdaaaGreatW.PrintWords Go.Proofs.YthgehdembghdaaaGreatW.PrintLast Go.Proofs.YthgehdembghdaaaGreatW.PrintMore
attribute [local go_sem] max2_int min2_int max_two min_two max_three min_three max_four min_four   -- for this text's walks alone
set_option linter.unusedVariables false
set_option linter.unusedSimpArgs false
end Go.Proofs.YthgehdembghdaaaGreat.P
namespace Go.Proofs.YthgehdembghdaaaGreat.P
open Go.RowKit Go.Proofs.YthgehdembghdaaaGreatW.PrintWords Go.Proofs.YthgehdembghdaaaGreatW.PrintLast Go.Proofs.YthgehdembghdaaaGreatW.PrintMore
open Go.Proofs.YthgehdembghdaaaGreat.Dist
set_option linter.unusedVariables false
set_option linter.unusedSimpArgs false
def bestStep (i s : Int) (b : Int × Bool) (x : Seed) : Int × Bool := if x.f0 = i ∧ x.f1 = s ∧ (b.2 = false ∨ x.f2 < b.1) then (x.f2, true) else b
def bestS (l : List Seed) (i s : Int) : Int := (l.foldl (bestStep i s) (INF, false)).1
def ByS (W H : Int) (C : List Int) (l : List Seed) (D : List Int) (i s : Int) : Prop := (OutE W H i s ∧ bestS l i s = rd D i) ∨ (¬ OutE W H i s ∧ rd C (nbS W i s) ≠ 255 ∧ rd C (nbS W i s) + rd D (nbS W i s) = rd D i)
instance (W H : Int) (C : List Int) (l : List Seed) (D : List Int) (i s : Int) : Decidable (ByS W H C l D i s) := inferInstanceAs (Decidable (_ ∨ _))
def HelmOk (W H : Int) (C : List Int) (l : List Seed) (D : List Int) : Prop :=
 ((1 ≤ W ∧ W ≤ 16) ∧ (1 ≤ H ∧ H ≤ 16) ∧ (C.length : Int) = W * H ∧ D.length = C.length) ∧ (∀ x ∈ C, 0 ≤ x ∧ x ≤ 255) ∧ (∀ x ∈ D, 0 ≤ x ∧ x ≤ INF) ∧ l.length ≤ 1000000
instance (W H : Int) (C : List Int) (l : List Seed) (D : List Int) : Decidable (HelmOk W H C l D) := inferInstanceAs (Decidable (_ ∧ _))
end Go.Proofs.YthgehdembghdaaaGreat.P
namespace Go.Proofs.YthgehdembghdaaaGreat.P
open Go.RowKit Go.Proofs.YthgehdembghdaaaGreatW.PrintWords Go.Proofs.YthgehdembghdaaaGreatW.PrintLast Go.Proofs.YthgehdembghdaaaGreatW.PrintMore
open Go.Proofs.YthgehdembghdaaaGreat.Dist
set_option linter.unusedVariables false
set_option linter.unusedSimpArgs false
structure HelmM (w : World) (g : Nat) (W H : Int) (AT : Option Addr) (cT : Nat) (C : List Int) (AS : Option Addr) (cS : Nat) (l : List Seed) (AD : Option Addr) (cD : Nat) (D : List Int) : Prop where
 blk : w.heap[g]? = some (.cells #[.int .i64 W, .int .i64 H, .slice AT C.length cT, .slice AS l.length cS, .slice AD D.length cD] 141 (0, 0))
 tile : Kd.C (Kd.int .u8) w AT C.length C
 seeds : Kd.C k90 w AS l.length l
 seedsC : l.length ≤ cS
 dist : Kd.C (Kd.int .i64) w AD D.length D
variable {w w' : World} {g : Nat} {W H : Int} {AT : Option Addr} {cT : Nat} {C : List Int} {AS : Option Addr} {cS : Nat} {l : List Seed} {AD : Option Addr} {cD : Nat} {D : List Int}
end Go.Proofs.YthgehdembghdaaaGreat.P
namespace Go.Proofs.YthgehdembghdaaaGreat.P
open Go.RowKit Go.Proofs.YthgehdembghdaaaGreatW.PrintWords Go.Proofs.YthgehdembghdaaaGreatW.PrintLast Go.Proofs.YthgehdembghdaaaGreatW.PrintMore
open Go.Proofs.YthgehdembghdaaaGreat.Dist
set_option linter.unusedVariables false
set_option linter.unusedSimpArgs false
end Go.Proofs.YthgehdembghdaaaGreat.P
namespace Go.Proofs.YthgehdembghdaaaGreat.P
open Go.RowKit Go.Proofs.YthgehdembghdaaaGreatW.PrintWords Go.Proofs.YthgehdembghdaaaGreatW.PrintLast Go.Proofs.YthgehdembghdaaaGreatW.PrintMore
open Go.Proofs.YthgehdembghdaaaGreat.Dist
set_option linter.unusedVariables false
set_option linter.unusedSimpArgs false
end Go.Proofs.YthgehdembghdaaaGreat.P
namespace Go.Proofs.YthgehdembghdaaaGreat.P
open Go.RowKit Go.Proofs.YthgehdembghdaaaGreatW.PrintWords Go.Proofs.YthgehdembghdaaaGreatW.PrintLast Go.Proofs.YthgehdembghdaaaGreatW.PrintMore
open Go.Proofs.YthgehdembghdaaaGreat.Dist
set_option linter.unusedVariables false
set_option linter.unusedSimpArgs false
end Go.Proofs.YthgehdembghdaaaGreat.P
