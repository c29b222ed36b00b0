/-
 PLAIN: distances from one cell. PLAIN: the table of open locals, as the printed functions tell it.
-/
import Derived.Test.YthgehdembghdaaaGreatXLawS
import Derived.Test.YthgehdembghdaaaGreatPx26
namespace Go.Proofs.YthgehdembghdaaaGreat.P
open Go.RowKit Go.Proofs.YthgehdembghdaaaGreatW.PrintWords Go.Proofs.YthgehdembghdaaaGreatW.PrintLast Go.Proofs.YthgehdembghdaaaGreatW.PrintMore
open Go.Proofs.YthgehdembghdaaaGreat.Dist
set_option linter.unusedVariables false
set_option linter.unusedSimpArgs false
noncomputable def dist1 (W : Int) (C : List Int) (x : Int) : List Int := distOf W C [⟨x, 4, 0⟩]
theorem one_ok {W H : Int} {C : List Int} (ht : TileOk W H C) {x : Int} (h0 : 0 ≤ x) (h1 : x < C.length) (h2 : rd C x ≠ 255) : SeedsOk W H C [⟨x, 4, 0⟩] := by
 refine ⟨ht, fun y hy => ?_⟩
 obtain rfl : y = ⟨x, 4, 0⟩ := by simpa using hy
 refine ⟨h0, h1, h2, Int.le_refl _, by show (0 : Int) ≤ _; decide, ?_⟩
 exact .inr (.inr (.inr (.inr rfl)))
theorem one_gr {W H : Int} {C : List Int} (hb : ∀ x ∈ C, 0 ≤ x ∧ x ≤ 255) (ht : TileOk W H C) {x : Nat} (h1 : x < C.length) (h2 : rd C x ≠ 255) : ((grT W C []).one x).IsDist (fun i => rd (dist1 W C x) i) := by
 have h := (distOf_spec hb (one_ok ht (x := (x : Int)) (by omega) (by omega) h2)).2
 have e : grT W C [⟨(x : Int), 4, 0⟩] = (grT W C []).one x := by
  unfold Gr.one Gr.with grT
  congr 1
  funext i k
  apply propext
  constructor
  ·rintro ⟨y, hy, e0, e2⟩
   obtain rfl : y = ⟨x, 4, 0⟩ := by simpa using hy
   have e0' : (x : Int) = (i : Int) := e0
   have e2' : (0 : Int) = k := e2
   exact ⟨by omega, e2'.symm⟩
  ·rintro ⟨rfl, rfl⟩
   exact ⟨_, List.mem_singleton.2 rfl, rfl, rfl⟩
 rw [e] at h
 exact h
theorem dist1_len {W H : Int} {C : List Int} (hb : ∀ x ∈ C, 0 ≤ x ∧ x ≤ 255) (ht : TileOk W H C) {x : Nat} (h1 : x < C.length) (h2 : rd C x ≠ 255) : (dist1 W C x).length = C.length := dist_len hb (one_ok ht (x := (x : Int)) (by omega) (by omega) h2)
theorem pos_c {W H : Int} {C : List Int} (hb : ∀ x ∈ C, 0 ≤ x ∧ x ≤ 255) (ht : TileOk W H C) : ∀ j, j < (grT W C []).n → (grT W C []).opn j → 1 ≤ (grT W C []).c j := fun j hj ho => (costs_pos hb ht [] j hj ho).1
theorem dist1_range {W H : Int} {C : List Int} (hb : ∀ x ∈ C, 0 ≤ x ∧ x ≤ 255) (ht : TileOk W H C) {x i : Nat} (h1 : x < C.length) (h2 : rd C x ≠ 255) (hi : i < C.length) : 0 ≤ rd (dist1 W C x) i ∧ rd (dist1 W C x) i ≤ INF :=
 ⟨((one_gr hb ht h1 h2).2 i hi).1, ((one_gr hb ht h1 h2).1 i hi).1⟩
theorem dist1_self {W H : Int} {C : List Int} (hb : ∀ x ∈ C, 0 ≤ x ∧ x ≤ 255) (ht : TileOk W H C) {x : Nat} (h1 : x < C.length) (h2 : rd C x ≠ 255) : rd (dist1 W C x) x = 0 := by
 have a := (dist1_range hb ht h1 h2 h1).1
 have b : rd (dist1 W C x) x ≤ 0 := (((one_gr hb ht h1 h2).1 x h1).2 h2).1 0 ⟨rfl, rfl⟩
 omega
theorem dist1_pos {W H : Int} {C : List Int} (hb : ∀ x ∈ C, 0 ≤ x ∧ x ≤ 255) (ht : TileOk W H C) {x i : Nat} (h1 : x < C.length) (h2 : rd C x ≠ 255) (hi : i < C.length) (hne : i ≠ x) : 1 ≤ rd (dist1 W C x) i := by
 rcases ((one_gr hb ht h1 h2).2 i hi).2 with e | ⟨_, ⟨e, _⟩ | ⟨j, hj, _, hoj, e⟩⟩
 ·have e' : rd (dist1 W C x) i = INF := e
  unfold INF at e'
  omega
 ·exact absurd e hne
 ·have e' : rd (dist1 W C x) i = rd (dist1 W C x) j + rd C j := e
  have := (dist1_range hb ht h1 h2 (i := j) hj).1
  have h3 : 1 ≤ rd C j := pos_c hb ht j hj hoj
  omega
theorem dist1_small {W H : Int} {C : List Int} (hb : ∀ x ∈ C, 0 ≤ x ∧ x ≤ 255) (ht : TileOk W H C) {x i : Nat} (h1 : x < C.length) (h2 : rd C x ≠ 255) (hi : i < C.length) (hf : rd (dist1 W C x) i ≠ INF) : rd (dist1 W C x) i ≤ 254 * (C.length : Int) := by
 have h := Gr.bound_n (g := (grT W C []).one x) (pos_c hb ht) (one_gr hb ht h1 h2) 0 254 (by omega) (fun j hj ho => (costs_pos hb ht [] j hj ho).2) (fun i k _ hk => by have := hk.2; omega) i hi hf
 have h' : rd (dist1 W C x) i ≤ 0 + 254 * (C.length : Int) := h
 omega
theorem adj_symm {W : Int} (hW : 1 ≤ W) {i j : Nat} (h : AdjT W i j) : AdjT W j i := by
 have h0 := Int.emod_nonneg (i : Int) (show W ≠ 0 by omega)
 have h1 := Int.emod_lt_of_pos (i : Int) (show 0 < W by omega)
 have hd := Int.mul_ediv_add_emod (i : Int) W
 unfold AdjT at *
 rcases h with h | ⟨h, h'⟩ | h | ⟨h, h'⟩
 ·exact .inr (.inr (.inl (by omega)))
 ·refine .inr (.inr (.inr ⟨by omega, ?_⟩))
  have e : (j : Int) % W = (i : Int) % W + 1 := by
   rw [h, show (i : Int) + 1 = ((i : Int) % W + 1) + W * ((i : Int) / W) by omega, Int.add_mul_emod_self_left]
   exact Int.emod_eq_of_lt (by omega) (by omega)
  omega
 ·exact .inl (by omega)
 ·refine .inr (.inl ⟨by omega, ?_⟩)
  have e : (j : Int) % W = (i : Int) % W - 1 := by
   rw [h, show (i : Int) - 1 = ((i : Int) % W - 1) + W * ((i : Int) / W) by omega, Int.add_mul_emod_self_left]
   exact Int.emod_eq_of_lt (by omega) (by omega)
  omega
theorem dist1_back {W H : Int} {C : List Int} (hb : ∀ x ∈ C, 0 ≤ x ∧ x ≤ 255) (ht : TileOk W H C) {x y : Nat} (h1 : x < C.length) (h2 : rd C x ≠ 255) (h3 : y < C.length) (h4 : rd C y ≠ 255) : rd (dist1 W C y) x + rd C x ≤ rd (dist1 W C x) y + rd C y ∨ INF ≤ rd (dist1 W C x) y := by
 have h := back_le (g := grT W C []) (fun i j hij => adj_symm ht.1 hij) (pos_c hb ht) (t := x) h1 (Ds := fun a i => rd (dist1 W C a) i) (fun a ha hoa => one_gr hb ht ha hoa) h2 y h3 h4
 exact h
theorem dist1_both {W H : Int} {C : List Int} (hb : ∀ x ∈ C, 0 ≤ x ∧ x ≤ 255) (ht : TileOk W H C) {x y : Nat} (h1 : x < C.length) (h2 : rd C x ≠ 255) (h3 : y < C.length) (h4 : rd C y ≠ 255) :
  (rd (dist1 W C y) x = INF ↔ rd (dist1 W C x) y = INF) ∧ (rd (dist1 W C y) x < INF → rd (dist1 W C y) x + rd C x = rd (dist1 W C x) y + rd C y) := by
 have a := dist1_back hb ht h1 h2 h3 h4
 have b := dist1_back hb ht h3 h4 h1 h2
 have hC : C.length ≤ 256 := by
  obtain ⟨a1, a2, a3, a4, a5, a6⟩ := ht
  have := mul_small ⟨a1, a2⟩ ⟨a3, a4⟩
  omega
 have c1 := dist1_small hb ht h1 h2 h3
 have c2 := dist1_small hb ht h3 h4 h1
 have r1 := dist1_range hb ht h1 h2 h3
 have r2 := dist1_range hb ht h3 h4 h1
 have p1 := costs_pos hb ht [] x h1 h2
 have p2 := costs_pos hb ht [] y h3 h4
 have p1' : 1 ≤ rd C x ∧ rd C x ≤ 254 := p1
 have p2' : 1 ≤ rd C y ∧ rd C y ≤ 254 := p2
 clear p1 p2
 unfold INF at *
 omega
end Go.Proofs.YthgehdembghdaaaGreat.P
namespace Go.Proofs.YthgehdembghdaaaGreat.P
open Go.RowKit Go.Proofs.YthgehdembghdaaaGreatW.PrintWords Go.Proofs.YthgehdembghdaaaGreatW.PrintLast Go.Proofs.YthgehdembghdaaaGreatW.PrintMore
open Go.Proofs.YthgehdembghdaaaGreat.Dist
set_option linter.unusedVariables false
set_option linter.unusedSimpArgs false
def LocOk (C l : List Int) : Prop := (∀ x, x ∈ l → 0 ≤ x ∧ x < C.length ∧ rd C x ≠ 255) ∧ l.Pairwise (· < ·)
theorem LocOk.at {C l : List Int} (h : LocOk C l) {i : Nat} (hi : i < l.length) : ∃ j : Nat, rd l i = (j : Int) ∧ j < C.length ∧ rd C (j : Int) ≠ 255 := by
 obtain ⟨a, b, c⟩ := h.1 l[i] (List.getElem_mem _)
 refine ⟨l[i].toNat, by rw [rd_get l hi]; omega, by omega, ?_⟩
 rw [show ((l[i].toNat : Nat) : Int) = l[i] by omega]
 exact c
theorem LocOk.lt {C l : List Int} (h : LocOk C l) {i j : Nat} (hij : i < j) (hj : j < l.length) : rd l i < rd l j := by
 have := List.pairwise_iff_getElem.1 h.2 i j (by omega) hj hij
 rw [rd_get l (by omega), rd_get l hj]
 exact this
theorem at_some {W H : Int} {C : List Int} (hb : ∀ x ∈ C, 0 ≤ x ∧ x ≤ 255) (ht : TileOk W H C) {j : Nat} (hj : j < C.length) (k : Nat) (hk : 300 ≤ k) : tile_At.f k W H C (j : Int) = some (rd C (j : Int)) := by
 obtain ⟨a1, a2, a3, a4, a5, a6⟩ := ht
 have hm := mul_small ⟨a1, a2⟩ ⟨a3, a4⟩
 have hc := hb (C[j]'hj) (List.getElem_mem _)
 rw [← rd_get C hj] at hc
 unfold tile_At.f tile_is.f
 rw [if_pos (by omega), if_pos (by omega), tileMay_some W H C k (by omega), Option.bind_some, Option.bind_some, decide_eq_true (show TileOk W H C from ⟨a1, a2, a3, a4, a5, a6⟩), if_pos rfl, if_pos (by omega), if_pos (by omega), w64 (by omega) (by omega)]
theorem tmay_some {W H : Int} {C : List Int} (hb : ∀ x ∈ C, 0 ≤ x ∧ x ≤ 255) (ht : TileOk W H C) {l : List Int} (h : LocOk C l) (hl : l.length ≤ 1000) (k : Nat) (hk : 1400 ≤ k) : table_may.f k W H C l = some true := by
 have hC : C.length ≤ 256 := by
  obtain ⟨a1, a2, a3, a4, a5, a6⟩ := ht
  have := mul_small ⟨a1, a2⟩ ⟨a3, a4⟩
  omega
 have key : ∀ (d i k : Nat), i + d = l.length → d + 300 < k → table_may.l0 k l l (l.length : Int) (i : Int) W H C = some true := by
  intro d
  induction d with
  | zero =>
   intro i k hi hk
   obtain ⟨k, rfl⟩ : ∃ m, k = m + 1 := ⟨k - 1, by omega⟩
   rw [table_may.l0, if_neg (by omega), tileMay_some W H C k (by omega), Option.bind_some, decide_eq_true ht]
  | succ d ih =>
   intro i k hi hk
   obtain ⟨k, rfl⟩ : ∃ m, k = m + 1 := ⟨k - 1, by omega⟩
   have hil : i < l.length := by omega
   obtain ⟨j, hj, hjl, hjo⟩ := h.at hil
   have hj0 : rd C (j : Int) ≠ 0 := by
    rw [rd_get C hjl]
    exact fun e => ht.2.2.2.2.2 (e ▸ List.getElem_mem _)
   have hnext := ih (i + 1) k (by omega) (by omega)
   rw [table_may.l0, if_pos (by omega), if_pos (by omega), if_pos (by omega), hj, at_some hb ht hjl k (by omega), Option.bind_some, if_neg hj0, if_neg hjo, w64 (n := (i : Int) + 1) (by omega) (by omega)]
   by_cases hi0 : (i : Int) > 0
   ·have hlt := h.lt (i := i - 1) (j := i) (by omega) hil
    rw [show ((i - 1 : Nat) : Int) = (i : Int) - 1 by omega, hj] at hlt
    rw [if_pos hi0, w64 (n := (i : Int) - 1) (by omega) (by omega), if_pos (by omega), if_pos (by omega), if_neg (by omega)]
    exact hnext
   ·rw [if_neg hi0]
    exact hnext
 exact key l.length 0 k (by omega) (by omega)
theorem to_some {W H : Int} {C : List Int} (hb : ∀ x ∈ C, 0 ≤ x ∧ x ≤ 255) (ht : TileOk W H C) {j : Nat} (hj : j < C.length) (ho : rd C (j : Int) ≠ 255) : table_To.f W H C (j : Int) = some (dist1 W C (j : Int), 0) := by
 unfold table_To.f
 rw [sweep_some hb (one_ok ht (x := (j : Int)) (by omega) (by omega) ho) (by simp), Option.bind_some]
 rfl
theorem rd_set' (l : List Int) (p q : Nat) (v : Int) (hq : q < l.length) : rd (l.set p v) (q : Int) = if p = q then v else rd l (q : Int) := by
 rw [rd_get _ (by simpa using hq), List.getElem_set, rd_get l hq]
theorem idx_lt {n a b : Nat} (ha : a < n) (hb : b < n) : a * n + b < n * n := by
 have : (a + 1) * n ≤ n * n := Nat.mul_le_mul_right n ha
 rw [Nat.add_mul, Nat.one_mul] at this
 omega
theorem idx_inj {n a b a' b' : Nat} (hb : b < n) (hb' : b' < n) (h : a * n + b = a' * n + b') : a = a' ∧ b = b' := by
 have hn : 0 < n := by omega
 have h1 : (a * n + b) / n = a := by rw [Nat.mul_comm, Nat.mul_add_div hn, Nat.div_eq_of_lt hb, Nat.add_zero]
 have h2 : (a' * n + b') / n = a' := by rw [Nat.mul_comm, Nat.mul_add_div hn, Nat.div_eq_of_lt hb', Nat.add_zero]
 have h3 : a = a' := by rw [← h1, ← h2, h]
 subst h3
 exact ⟨rfl, by omega⟩
theorem idx_wrap {n a b : Nat} (hn : n ≤ 256) (ha : a < n) (hb : b < n) : wrap64 (wrap64 ((a : Int) * (n : Int)) + (b : Int)) = ((a * n + b : Nat) : Int) := by
 have h1 := idx_lt ha hb
 have h2 : n * n ≤ 256 * 256 := Nat.mul_le_mul hn hn
 rw [show (a : Int) * (n : Int) = ((a * n : Nat) : Int) by rw [Int.natCast_mul], w64 (n := ((a * n : Nat) : Int)) (by omega) (by omega), w64 (by omega) (by omega)]
 omega
def TabOk (W : Int) (C l tab : List Int) (j i : Nat) : Prop := tab.length = l.length * l.length ∧ ∀ a b, a < l.length → b < l.length → (b < j ∨ b = j ∧ a < i) → rd tab ((a * l.length + b : Nat) : Int) = rd (dist1 W C (rd l b)) (rd l a)
theorem make_l1 {W H : Int} {C : List Int} {l : List Int} (h : LocOk C l) (hl : l.length ≤ 256) {j : Nat} (hj : j < l.length) {D : List Int} (hD : D = dist1 W C (rd l j)) (hDl : D.length = C.length) (k : Nat) : ∀ (e i : Nat) (tab : List Int), i + e = l.length → TabOk W C l tab j i → ∃ tab', TabOk W C l tab' j l.length ∧ table_Make.l1 (k + e + 1) l (l.length : Int) tab (j : Int) D l (l.length : Int) (j : Int) l (l.length : Int) (i : Int) W H C = table_Make.l0 k l (l.length : Int) tab' l (l.length : Int) (wrap64 ((j : Int) + 1)) W H C := by
 intro e
 induction e with
 | zero =>
  intro i tab hi ht
  obtain rfl : i = l.length := by omega
  refine ⟨tab, ht, ?_⟩
  rw [table_Make.l1, if_neg (by omega)]
 | succ e ih =>
  intro i tab hi ht
  have hil : i < l.length := by omega
  obtain ⟨c, hc, hcl, hco⟩ := h.at hil
  have hx := idx_wrap hl hil hj
  have hx2 := idx_lt hil hj
  obtain ⟨tab', ht', e'⟩ := ih (i + 1) (tab.set (i * l.length + j) (rd D (c : Int))) (by omega) ⟨by rw [List.length_set]; exact ht.1, fun a b ha hb hab => by
   rw [rd_set' _ _ _ _ (by rw [ht.1]; exact idx_lt ha hb)]
   by_cases hq : i * l.length + j = a * l.length + b
   ·obtain ⟨rfl, rfl⟩ := idx_inj hj hb hq
    rw [if_pos rfl, hc, hD]
   ·rw [if_neg hq]
    refine ht.2 a b ha hb ?_
    rcases hab with hab | ⟨hab, hai⟩
    ·exact .inl hab
    ·refine .inr ⟨hab, ?_⟩
     subst hab
     have : a ≠ i := fun e => hq (by rw [e])
     omega⟩
  refine ⟨tab', ht', ?_⟩
  rw [show k + (e + 1) + 1 = (k + e + 1) + 1 by omega, table_Make.l1, if_pos (by omega), if_pos (by omega), if_pos (by omega), hc, if_pos (by omega), if_pos (by omega), hx, if_pos (by omega), if_pos (by rw [ht.1]; omega), w64 (n := (i : Int) + 1) (by omega) (by omega), show (((i * l.length + j : Nat) : Int)).toNat = i * l.length + j by omega]
  exact e'
set_option maxRecDepth 100000 in
theorem make_some {W H : Int} {C : List Int} (hb : ∀ x ∈ C, 0 ≤ x ∧ x ≤ 255) (ht : TileOk W H C) {l : List Int} (h : LocOk C l) (hl : l.length ≤ 256) (k : Nat) (hk : 100000 ≤ k) : ∃ tab, table_Make.f k W H C l = some (tab, 0) ∧ tab.length = l.length * l.length ∧ ∀ a b, a < l.length → b < l.length → rd tab ((a * l.length + b : Nat) : Int) = rd (dist1 W C (rd l b)) (rd l a) := by
 have key : ∀ (d j k : Nat) (tab : List Int), j + d = l.length → d * 300 + 1 < k → TabOk W C l tab j 0 → ∃ tab', TabOk W C l tab' l.length 0 ∧ table_Make.l0 k l (l.length : Int) tab l (l.length : Int) (j : Int) W H C = some (tab', 0) := by
  intro d
  induction d with
  | zero =>
   intro j k tab hj hk hT
   obtain ⟨k, rfl⟩ : ∃ m, k = m + 1 := ⟨k - 1, by omega⟩
   obtain rfl : j = l.length := by omega
   refine ⟨tab, hT, ?_⟩
   rw [table_Make.l0, if_neg (by omega)]
  | succ d ih =>
   intro j k tab hj hk hT
   obtain ⟨k, rfl⟩ : ∃ m, k = (m + l.length + 1) + 1 := ⟨k - 2 - l.length, by omega⟩
   have hjl : j < l.length := by omega
   obtain ⟨c, hc, hcl, hco⟩ := h.at hjl
   obtain ⟨tab1, hT1, e1⟩ := make_l1 (W := W) (H := H) h hl hjl (D := dist1 W C (rd l j)) rfl (by rw [hc]; exact dist1_len hb ht hcl hco) k l.length 0 tab (by omega) hT
   obtain ⟨tab2, hT2, e2⟩ := ih (j + 1) k tab1 (by omega) (by omega) ⟨hT1.1, fun a b ha hb' hab => hT1.2 a b ha hb' (by omega)⟩
   refine ⟨tab2, hT2, ?_⟩
   rw [table_Make.l0, if_pos (by omega), if_pos (by omega), if_pos (by omega)]
   rw [hc] at e1 ⊢
   rw [to_some hb ht hcl hco, Option.bind_some]
   dsimp only
   rw [show ((0 : Nat) : Int) = 0 from rfl] at e1
   rw [e1, w64 (n := (j : Int) + 1) (by omega) (by omega)]
   exact e2
 have hn2 : l.length * l.length ≤ 256 * 256 := Nat.mul_le_mul hl hl
 have hw : wrap64 ((l.length : Int) * (l.length : Int)) = ((l.length * l.length : Nat) : Int) := by
  rw [show (l.length : Int) * (l.length : Int) = ((l.length * l.length : Nat) : Int) by rw [Int.natCast_mul], w64 (by omega) (by omega)]
 obtain ⟨tab, hT, e⟩ := key l.length 0 k (List.replicate (l.length * l.length) 0) (by omega) (by omega) ⟨by simp, fun a b _ _ hab => by omega⟩
 refine ⟨tab, ?_, hT.1, fun a b ha hb' => hT.2 a b ha hb' (.inl hb')⟩
 unfold table_Make.f
 rw [tmay_some hb ht h (by omega) k (by omega), Option.bind_some, if_pos rfl, hw, if_pos (by omega), if_pos (by omega), show (((l.length * l.length : Nat) : Int)).toNat = l.length * l.length by omega]
 exact e
end Go.Proofs.YthgehdembghdaaaGreat.P
