/-
  PLAIN: what the laws of layer 9 begin with, and what distances answer. PLAIN: seeds that are all so much later.
-/
import Derived.Test.YtgcfcemgeppkmaaXRefSeedsP
import Derived.Test.YtgcfcemgeppkmaaXTile
import Derived.Test.YtgcfcemgeppkmaaXDist
import Derived.Test.YtgcfcemgeppkmaaPx1
import Derived.Test.YtgcfcemgeppkmaaPx1
import Derived.Test.YtgcfcemgeppkmaaPx5
import Derived.Test.YtgcfcemgeppkmaaPx4
import Derived.Test.YtgcfcemgeppkmaaPx9
import Derived.Test.YtgcfcemgeppkmaaPx5
namespace Go.Proofs.Ytgcfcemgeppkmaa.P
open Go.RowKit Go.Proofs.YtgcfcemgeppkmaaW.PrintWords Go.Proofs.YtgcfcemgeppkmaaW.PrintLast Go.Proofs.YtgcfcemgeppkmaaW.PrintMore
open Go.Proofs.Ytgcfcemgeppkmaa.Dist
set_option linter.unusedVariables false
set_option linter.unusedSimpArgs false

theorem within_some (x : Int) {lo hi : Int} (h0 : lo ≤ hi) (h1 : -1000000 ≤ lo) (h2 : hi ≤ 1099511627776) : herdsmanref1_Within.f x lo hi = some (lo + x % (hi - lo + 1)) := by
  unfold herdsmanref1_Within.f
  have e1 : wrap64 (hi - lo) = hi - lo := w64 (by omega) (by omega)
  have e2 : wrap64 (hi - lo + 1) = hi - lo + 1 := w64 (by omega) (by omega)
  have hp := Int.emod_nonneg x (show hi - lo + 1 ≠ 0 by omega)
  have hq := Int.emod_lt_of_pos x (show 0 < hi - lo + 1 by omega)
  have ht := Int.tmod_eq_emod (a := x) (b := hi - lo + 1)
  have hna : ((hi - lo + 1).natAbs : Int) = hi - lo + 1 := by omega
  simp only [e1, e2]
  rw [if_neg (by omega)]
  by_cases hc : 0 ≤ x ∨ hi - lo + 1 ∣ x
  · rw [if_pos hc] at ht
    rw [show Int.tmod x (hi - lo + 1) = x % (hi - lo + 1) by omega, if_neg (by omega), w64 (by omega) (by omega)]
  · rw [if_neg hc, hna] at ht
    have hne : x % (hi - lo + 1) ≠ 0 := fun h => hc (.inr (Int.dvd_of_emod_eq_zero h))
    rw [show Int.tmod x (hi - lo + 1) = x % (hi - lo + 1) - (hi - lo + 1) by omega, if_pos (by omega)]
    generalize x % (hi - lo + 1) = m at *
    rw [w64 (n := m - (hi - lo + 1) + hi) (by omega) (by omega), w64 (n := m - (hi - lo + 1) + hi - lo) (by omega) (by omega), w64 (n := m - (hi - lo + 1) + hi - lo + 1) (by omega) (by omega), w64 (by omega) (by omega)]
    congr 1; omega

theorem cost_some {a : Int} (h : 0 ≤ a ∧ a ≤ 255) : ∃ r, herdsmanref1_Cost.f a = some r ∧ 1 ≤ r ∧ r ≤ 255 := by
  unfold herdsmanref1_Cost.f
  rw [tmod_nn h.1, tmod_nn h.1]
  split
  · exact ⟨255, rfl, by omega⟩
  · split
    · exact ⟨_, rfl, by omega⟩
    · exact ⟨_, rfl, by omega⟩

theorem made_loop {W H : Int} (hW : 1 ≤ W ∧ W ≤ 16) (hH : 1 ≤ H ∧ H ≤ 16) (c : List Int) (hc : ∀ x ∈ c, 0 ≤ x ∧ x ≤ 255) (hcl : c.length ≤ 140737488355328) : ∀ (d k : Nat) (acc : List Int), (acc.length : Int) + d = W * H → d < k → (∀ x ∈ acc, 1 ≤ x ∧ x ≤ 255) →
    ∃ C, herdsmanref1_MadeTile.l0 k c (acc.length : Int) W H acc = some (W, H, C) ∧ (C.length : Int) = W * H ∧ ∀ x ∈ C, 1 ≤ x ∧ x ≤ 255 := by
  have hm := mul_small hW hH
  intro d
  induction d with
  | zero =>
    intro k acc hl hk ha
    obtain ⟨k, rfl⟩ : ∃ m, k = m + 1 := ⟨k - 1, by omega⟩
    rw [herdsmanref1_MadeTile.l0, w64 (n := W * H) (by omega) (by omega), if_neg (by omega)]
    exact ⟨acc, rfl, by omega, ha⟩
  | succ d ih =>
    intro k acc hl hk ha
    obtain ⟨k, rfl⟩ : ∃ m, k = m + 1 := ⟨k - 1, by omega⟩
    have hstep : ∀ r, 1 ≤ r ∧ r ≤ 255 → ∃ C, (if acc.length < 140737488355328 then (herdsmanref1_MadeTile.l0 k c (wrap64 ((acc.length : Int) + 1)) W H (acc ++ [r])) else none) = some (W, H, C) ∧ (C.length : Int) = W * H ∧ ∀ x ∈ C, 1 ≤ x ∧ x ≤ 255 := by
      intro r hr
      rw [if_pos (by omega), w64 (by omega) (by omega)]
      have := ih k (acc ++ [r]) (by simp; omega) (by omega) (fun x hx => by
        rcases List.mem_append.1 hx with h | h
        · exact ha x h
        · rw [List.mem_singleton] at h; rw [h]; exact hr)
      simpa using this
    rw [herdsmanref1_MadeTile.l0, w64 (n := W * H) (by omega) (by omega), if_pos (by omega)]
    by_cases h0 : 0 < c.length
    · have hp := Int.ediv_nonneg (show 0 ≤ (acc.length : Int) by omega) (show 0 ≤ (c.length : Int) by omega)
      have hq := Int.ediv_le_self (c.length : Int) (show 0 ≤ (acc.length : Int) by omega)
      rw [if_pos (by omega), if_neg (by omega), tdiv_nn (by omega), w64 (n := (acc.length : Int) / c.length) (by omega) (by omega), w64 (n := (acc.length : Int) / c.length * 5) (by omega) (by omega), w64 (n := (acc.length : Int) + (acc.length : Int) / c.length * 5) (by omega) (by omega), tmod_nn (by omega)]
      have e0 := Int.emod_nonneg ((acc.length : Int) + (acc.length : Int) / c.length * 5) (show (c.length : Int) ≠ 0 by omega)
      have e1 := Int.emod_lt_of_pos ((acc.length : Int) + (acc.length : Int) / c.length * 5) (show 0 < (c.length : Int) by omega)
      generalize ((acc.length : Int) + (acc.length : Int) / c.length * 5) % c.length = j at *
      obtain ⟨j, rfl⟩ : ∃ n : Nat, j = (n : Int) := ⟨j.toNat, by omega⟩
      rw [if_pos e0, if_pos e1]
      have hj : j < c.length := by omega
      obtain ⟨r, hr, hr2⟩ := cost_some (hc (c[j]) (List.getElem_mem _))
      rw [rd_get c hj, hr, Option.bind_some]
      exact hstep r hr2
    · rw [if_neg (by omega)]
      obtain ⟨r, hr, hr2⟩ := cost_some (a := 1) (by omega)
      rw [hr, Option.bind_some]
      exact hstep r hr2
/-- The tile of numbers. -/
theorem madeTile_some (w h : Int) (c : List Int) (hc : ∀ x ∈ c, 0 ≤ x ∧ x ≤ 255) (hcl : c.length ≤ 140737488355328) : ∃ W H C, (∀ k, 300 ≤ k → herdsmanref1_MadeTile.f k w h c = some (W, H, C)) ∧ TileOk W H C ∧ ∀ x ∈ C, 0 ≤ x ∧ x ≤ 255 := by
  have h1 := Int.emod_nonneg w (show (16 : Int) - 1 + 1 ≠ 0 by omega)
  have h2 := Int.emod_lt_of_pos w (show (0 : Int) < 16 - 1 + 1 by omega)
  have h3 := Int.emod_nonneg h (show (16 : Int) - 1 + 1 ≠ 0 by omega)
  have h4 := Int.emod_lt_of_pos h (show (0 : Int) < 16 - 1 + 1 by omega)
  have hW : 1 ≤ 1 + w % (16 - 1 + 1) ∧ 1 + w % (16 - 1 + 1) ≤ 16 := by omega
  have hH : 1 ≤ 1 + h % (16 - 1 + 1) ∧ 1 + h % (16 - 1 + 1) ≤ 16 := by omega
  have hm := mul_small hW hH
  obtain ⟨d, hd⟩ : ∃ d : Nat, (d : Int) = (1 + w % (16 - 1 + 1)) * (1 + h % (16 - 1 + 1)) := ⟨((1 + w % (16 - 1 + 1)) * (1 + h % (16 - 1 + 1))).toNat, by omega⟩
  obtain ⟨C, hC, hl, hb⟩ := made_loop hW hH c hc hcl d 300 [] (by rw [← hd]; simp) (by omega) (fun x hx => by simp at hx)
  refine ⟨_, _, C, fun k hk => ?_, ⟨hW.1, hW.2, hH.1, hH.2, hl, fun h0 => by have := (hb 0 h0).1; omega⟩, fun x hx => by have := hb x hx; omega⟩
  unfold herdsmanref1_MadeTile.f
  rw [within_some w (by omega) (by omega) (by omega), within_some h (by omega) (by omega) (by omega), Option.bind_some, Option.bind_some]
  have hmono : ∀ n k, 300 + n = k → herdsmanref1_MadeTile.l0 k c 0 (1 + w % (16 - 1 + 1)) (1 + h % (16 - 1 + 1)) [] = some (1 + w % (16 - 1 + 1), 1 + h % (16 - 1 + 1), C) := by
    intro n
    induction n with
    | zero => rintro k rfl; exact hC
    | succ n ih => rintro k rfl; exact herdsmanref1_MadeTile.mono_l (300 + n) _ _ _ _ _ _ (ih _ rfl)
  exact hmono (k - 300) k (by omega)

theorem ints_self (a : List Int) (h : a.length ≤ 4611686018427387904) (k : Nat) (hk : a.length < k) : herdsmanref1_Ints.f k a a = some true := by
  unfold herdsmanref1_Ints.f
  rw [if_pos rfl]
  have key : ∀ (d i k : Nat), i + d = a.length → d < k → herdsmanref1_Ints.l0 k a a (i : Int) = some true := by
    intro d
    induction d with
    | zero =>
      intro i k hi hk
      obtain ⟨k, rfl⟩ : ∃ m, k = m + 1 := ⟨k - 1, by omega⟩
      rw [herdsmanref1_Ints.l0, if_neg (by omega)]
    | succ d ih =>
      intro i k hi hk
      obtain ⟨k, rfl⟩ : ∃ m, k = m + 1 := ⟨k - 1, by omega⟩
      rw [herdsmanref1_Ints.l0, if_pos (by omega), if_pos (by omega), if_pos (by omega), if_pos rfl, w64 (by omega) (by omega)]
      exact ih (i + 1) k (by omega) (by omega)
  exact key a.length 0 k (by omega) hk

theorem spread_some {W H : Int} {C : List Int} {l : List Seed} (hb : ∀ x ∈ C, 0 ≤ x ∧ x ≤ 255) (hs : SeedsOk W H C l) (hl : l.length < 5864062014805) : spreadF W H C l = some (distOf W C l, 0) := by
  unfold spreadF
  rw [if_pos hs, if_pos ⟨hb, hl⟩]
end Go.Proofs.Ytgcfcemgeppkmaa.P
namespace Go.Proofs.Ytgcfcemgeppkmaa.P
open Go.RowKit Go.Proofs.YtgcfcemgeppkmaaW.PrintWords Go.Proofs.YtgcfcemgeppkmaaW.PrintLast Go.Proofs.YtgcfcemgeppkmaaW.PrintMore
open Go.Proofs.Ytgcfcemgeppkmaa.Dist
set_option linter.unusedVariables false
set_option linter.unusedSimpArgs false

theorem mn_min (a b : Int) : mn a b = min a b := by unfold mn; split <;> omega
theorem SeedsOk.sub {W H : Int} {C : List Int} {s s' : List Seed} (h : SeedsOk W H C s) (hs : ∀ x, x ∈ s' → x ∈ s) : SeedsOk W H C s' := ⟨h.1, fun x hx => h.2 x (hs x hx)⟩
theorem dist_len {W H : Int} {C : List Int} (hb : ∀ x ∈ C, 0 ≤ x ∧ x ≤ 255) {s : List Seed} (h : SeedsOk W H C s) : (distOf W C s).length = C.length := (distOf_spec hb h).1
theorem parts_law {W H : Int} {C : List Int} (hb : ∀ x ∈ C, 0 ≤ x ∧ x ≤ 255) {s : List Seed} (h : SeedsOk W H C s) (n : Nat) (i : Nat) (hi : i < C.length) :
    rd (distOf W C s) i = mn (rd (distOf W C (s.take n)) i) (rd (distOf W C (s.drop n)) i) := by
  have hA := distOf_spec hb (h.sub (s' := s.take n) (fun x hx => List.mem_of_mem_take hx))
  have hB := distOf_spec hb (h.sub (s' := s.drop n) (fun x hx => List.mem_of_mem_drop hx))
  have hD := distOf_spec hb h
  rw [mn_min]
  refine parts (g := grT W C s) (a := (grT W C (s.take n)).src) (b := (grT W C (s.drop n)).src) (fun i k _ => ?_) (fun j hj ho => (costs_pos hb h.1 s j hj ho).1) hD.2 hA.2 hB.2 i hi
  constructor
  · rintro ⟨x, hx, e⟩
    rw [← List.take_append_drop n s, List.mem_append] at hx
    rcases hx with hx | hx
    · exact .inl ⟨x, hx, e⟩
    · exact .inr ⟨x, hx, e⟩
  · rintro (⟨x, hx, e⟩ | ⟨x, hx, e⟩)
    · exact ⟨x, List.mem_of_mem_take hx, e⟩
    · exact ⟨x, List.mem_of_mem_drop hx, e⟩

theorem told_ok : SeedsOk 3 1 [5, 2, 9] [⟨2, 4, 0⟩] := by
  refine ⟨by unfold TileOk; decide, fun x hx => ?_⟩
  obtain rfl : x = ⟨2, 4, 0⟩ := by simpa using hx
  unfold SeedOk OutOk rd
  simp
theorem told_dist : distOf 3 [5, 2, 9] [⟨2, 4, 0⟩] = [11, 9, 0] := by
  have hb : ∀ x ∈ ([5, 2, 9] : List Int), 0 ≤ x ∧ x ≤ 255 := by simp
  refine distOf_eq hb told_ok.1 ⟨rfl, fun i hi => ?_, fun i hi => ?_⟩
  · have h3 : i < 3 := hi
    refine ⟨?_, fun _ => ⟨?_, fun j hj had ho => ?_⟩⟩
    · rcases (show i = 0 ∨ i = 1 ∨ i = 2 by omega) with rfl | rfl | rfl <;> simp [rd, grT, INF]
    · rintro k ⟨x, hx, e0, e2⟩
      obtain rfl : x = ⟨2, 4, 0⟩ := by simpa using hx
      have : i = 2 := by have : (2 : Int) = (i : Int) := e0; omega
      subst this
      have : (0 : Int) = k := e2
      subst this
      simp [rd]
    · have hj3 : j < 3 := hj
      have had' : AdjT 3 i j := had
      unfold AdjT at had'
      rcases (show i = 0 ∨ i = 1 ∨ i = 2 by omega) with rfl | rfl | rfl <;> rcases (show j = 0 ∨ j = 1 ∨ j = 2 by omega) with rfl | rfl | rfl <;> simp [rd, grT] <;> simp at had'
  · have h3 : i < 3 := hi
    rcases (show i = 0 ∨ i = 1 ∨ i = 2 by omega) with rfl | rfl | rfl
    · refine ⟨by simp [rd], .inr ⟨by simp [grT, rd], .inr ⟨1, by simp [grT], ?_, by simp [grT, rd], by simp [grT, rd]⟩⟩⟩
      show AdjT 3 _ _
      unfold AdjT
      simp
    · refine ⟨by simp [rd], .inr ⟨by simp [grT, rd], .inr ⟨2, by simp [grT], ?_, by simp [grT, rd], by simp [grT, rd]⟩⟩⟩
      show AdjT 3 _ _
      unfold AdjT
      simp
    · exact ⟨by simp [rd], .inr ⟨by simp [grT, rd], .inl ⟨⟨2, 4, 0⟩, by simp, rfl, by simp [rd]⟩⟩⟩
end Go.Proofs.Ytgcfcemgeppkmaa.P
namespace Go.Proofs.Ytgcfcemgeppkmaa.P
open Go.RowKit Go.Proofs.YtgcfcemgeppkmaaW.PrintWords Go.Proofs.YtgcfcemgeppkmaaW.PrintLast Go.Proofs.YtgcfcemgeppkmaaW.PrintMore
open Go.Proofs.Ytgcfcemgeppkmaa.Dist
set_option linter.unusedVariables false
set_option linter.unusedSimpArgs false

theorem few_some (l : List Int) : herdsmanlaw9_few.f l = some (l.take (min l.length 24)) := by
  unfold herdsmanlaw9_few.f mn
  split
  · rw [if_pos (by omega), if_pos (by omega)]
    congr 2; omega
  · rw [if_pos (by omega), if_pos (by omega)]
    congr 2; omega

theorem seeds_some {W H : Int} {C : List Int} (ht : TileOk W H C) (l : List Int) (hl : l.length ≤ 1000000) : herdsmanref7_Seeds.f W H C l = some (seedsOf W H C l) := by
  show refSeedsF W H C l = _
  unfold refSeedsF
  rw [if_pos ⟨ht, hl⟩]
end Go.Proofs.Ytgcfcemgeppkmaa.P
namespace Go.Proofs.Ytgcfcemgeppkmaa.P
open Go.RowKit Go.Proofs.YtgcfcemgeppkmaaW.PrintWords Go.Proofs.YtgcfcemgeppkmaaW.PrintLast Go.Proofs.YtgcfcemgeppkmaaW.PrintMore
open Go.Proofs.Ytgcfcemgeppkmaa.Dist
set_option linter.unusedVariables false
set_option linter.unusedSimpArgs false

theorem u8_wf {l : List Int} (h : ∀ x ∈ l, (Lit.int .u8 x).wf = true) : ∀ x ∈ l, 0 ≤ x ∧ x ≤ 255 := by
  intro x hx
  have := h x hx
  simp only [Lit.wf, Bool.and_eq_true, decide_eq_true_eq] at this
  exact ⟨this.1, this.2⟩
theorem sweep_some {W H : Int} {C : List Int} {l : List Seed} (hb : ∀ x ∈ C, 0 ≤ x ∧ x ≤ 255) (hs : SeedsOk W H C l) (hl : l.length ≤ 1000000) : sweep_Spread.f W H C l = some (distOf W C l, 0) := spread_some hb hs (by omega)
theorem told9_some (k : Nat) (hk : 3 < k) : herdsmanlaw9_told.f k = some true := by
  unfold herdsmanlaw9_told.f
  rw [sweep_some (by simp) told_ok (by simp), Option.bind_some, told_dist]
  dsimp only
  rw [if_pos rfl, ints_self _ (by simp) k (by simpa using hk), Option.bind_some]
/-- The beginning: a tile, seeds of at most 24 numbers. -/
theorem begin9 (a0 a1 : Int) (l2 l3 : List Int) (h2 : l2.length * 1 ≤ 140737488351232) (hb2 : ∀ x ∈ l2, (Lit.int .u8 x).wf = true) :
    ∃ W H C s, (∀ k, 300 ≤ k → herdsmanref1_MadeTile.f k a0 a1 l2 = some (W, H, C)) ∧ herdsmanlaw9_few.f l3 = some (l3.take (min l3.length 24)) ∧ herdsmanref7_Seeds.f W H C (l3.take (min l3.length 24)) = some s ∧ SeedsOk W H C s ∧ (∀ x ∈ C, 0 ≤ x ∧ x ≤ 255) ∧ s.length ≤ 24 ∧ C.length ≤ 256 ∧ 1 ≤ C.length := by
  obtain ⟨W, H, C, hM, ht, hb⟩ := madeTile_some a0 a1 l2 (u8_wf hb2) (by omega)
  have hlen : (l3.take (min l3.length 24)).length ≤ 24 := by rw [List.length_take]; omega
  have hsl := seedsOf_len W H C (l3.take (min l3.length 24))
  have hC : C.length ≤ 256 ∧ 1 ≤ C.length := by
    obtain ⟨a1, a2, a3, a4, a5, a6⟩ := ht
    have := mul_small ⟨a1, a2⟩ ⟨a3, a4⟩
    omega
  exact ⟨W, H, C, seedsOf W H C (l3.take (min l3.length 24)), hM, few_some l3, seeds_some ht _ (by omega), seedsOf_ok ht _, hb, by omega, hC⟩
end Go.Proofs.Ytgcfcemgeppkmaa.P
namespace Go.Proofs.Ytgcfcemgeppkmaa.P
open Go.RowKit Go.Proofs.YtgcfcemgeppkmaaW.PrintWords Go.Proofs.YtgcfcemgeppkmaaW.PrintLast Go.Proofs.YtgcfcemgeppkmaaW.PrintMore
open Go.Proofs.Ytgcfcemgeppkmaa.Dist
set_option linter.unusedVariables false
set_option linter.unusedSimpArgs false

theorem rdT_get (xs : List Seed) {i : Nat} (h : i < xs.length) : rd_T25 xs (i : Int) = xs[i] := by
  unfold rd_T25
  rw [Int.toNat_natCast, List.getD_eq_getElem?_getD, List.getElem?_eq_getElem h]
  rfl
/-- A key brought below a bound. -/
def redS (y : Seed) : Seed := ⟨y.f0, y.f1, y.f2 % 1048577⟩
/-- So much later. -/
def lateS (x : Int) (y : Seed) : Seed := ⟨y.f0, y.f1, y.f2 + x⟩
theorem red_ok {W H : Int} {C : List Int} {s : List Seed} (h : SeedsOk W H C s) : SeedsOk W H C (s.map redS) := by
  refine ⟨h.1, fun y hy => ?_⟩
  obtain ⟨z, hz, rfl⟩ := List.mem_map.1 hy
  obtain ⟨h1, h2, h3, h4, h5, h6⟩ := h.2 z hz
  refine ⟨h1, h2, h3, ?_, ?_, h6⟩ <;> unfold redS <;> dsimp only <;> omega
theorem late_ok {W H : Int} {C : List Int} {s : List Seed} (h : SeedsOk W H C s) {x : Int} (hx : 0 ≤ x ∧ x ≤ 1048576) : SeedsOk W H C ((s.map redS).map (lateS x)) := by
  refine ⟨h.1, fun y hy => ?_⟩
  obtain ⟨y1, hy1, rfl⟩ := List.mem_map.1 hy
  obtain ⟨z, hz, rfl⟩ := List.mem_map.1 hy1
  obtain ⟨h1, h2, h3, h4, h5, h6⟩ := h.2 z hz
  refine ⟨h1, h2, h3, ?_, ?_, h6⟩ <;> unfold lateS redS <;> dsimp only <;> omega
theorem later_law {W H : Int} {C : List Int} (hb : ∀ x ∈ C, 0 ≤ x ∧ x ≤ 255) {s : List Seed} (h : SeedsOk W H C s) {x : Int} (hx : 0 ≤ x ∧ x ≤ 1048576) (hC : C.length ≤ 256) (i : Nat) (hi : i < C.length) :
    (rd (distOf W C (s.map redS)) i < 1099511627776 → rd (distOf W C ((s.map redS).map (lateS x))) i = rd (distOf W C (s.map redS)) i + x) ∧ (1099511627776 ≤ rd (distOf W C (s.map redS)) i → rd (distOf W C ((s.map redS).map (lateS x))) i = 1099511627776) := by
  have hA := distOf_spec hb (red_ok h)
  have hB := distOf_spec hb (late_ok h hx)
  refine later (g := grT W C (s.map redS)) (b := (grT W C ((s.map redS).map (lateS x))).src) (x := x) (K := 1048576) (M := 254) hx.1 (fun i k _ => ?_) (fun j hj ho => (costs_pos hb h.1 _ j hj ho).1) (by decide) (fun j hj ho => (costs_pos hb h.1 _ j hj ho).2) (fun i k _ hk => ?_) ?_ hA.2 hB.2 i hi
  · constructor
    · rintro ⟨y, hy, e0, e2⟩
      obtain ⟨y1, hy1, rfl⟩ := List.mem_map.1 hy
      exact ⟨y1, hy1, e0, by have : y1.f2 + x = k := e2; omega⟩
    · rintro ⟨y, hy, e0, e2⟩
      exact ⟨lateS x y, List.mem_map_of_mem hy, e0, by show y.f2 + x = k; omega⟩
  · obtain ⟨y, hy, e0, e2⟩ := hk
    obtain ⟨z, hz, rfl⟩ := List.mem_map.1 hy
    have : z.f2 % 1048577 = k := e2
    omega
  · show 1048576 + 254 * (C.length : Int) + x < 1099511627776
    omega
end Go.Proofs.Ytgcfcemgeppkmaa.P
