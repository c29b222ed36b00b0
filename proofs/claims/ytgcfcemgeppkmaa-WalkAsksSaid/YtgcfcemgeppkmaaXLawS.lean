/-
  PLAIN: what the laws of layer 9 begin with, and what distances answer. PLAIN: seeds that are all so much later. PLAIN: the cell beside one, as the laws' own helper tells it. PLAIN: distances come about by the four sides; a way never costs less.
-/
import Derived.Test.YtgcfcemgeppkmaaXRefSeeds
import Derived.Test.YtgcfcemgeppkmaaXNear
import Derived.Test.YtgcfcemgeppkmaaXTile
import Derived.Test.YtgcfcemgeppkmaaPx12
import Derived.Test.YtgcfcemgeppkmaaPx12
import Derived.Test.YtgcfcemgeppkmaaPx16
import Derived.Test.YtgcfcemgeppkmaaPx14
import Derived.Test.YtgcfcemgeppkmaaPx18
import Derived.Test.YtgcfcemgeppkmaaPx16
import Derived.Test.YtgcfcemgeppkmaaPx12
namespace Go.Proofs.Ytgcfcemgeppkmaa.P
open Go.RowKit Go.Proofs.YtgcfcemgeppkmaaW.PrintWords Go.Proofs.YtgcfcemgeppkmaaW.PrintLast Go.Proofs.YtgcfcemgeppkmaaW.PrintMore
open Go.Proofs.Ytgcfcemgeppkmaa.Dist
set_option linter.unusedVariables false
set_option linter.unusedSimpArgs false

theorem ints_self (a : List Int) (h : a.length ≤ 4611686018427387904) (k : Nat) (hk : a.length < k) : herdsmanref1_Ints.f k a a = some true := by
  unfold herdsmanref1_Ints.f
  rw [if_pos rfl]
  have key : ∀ (d i k : Nat), i + d = a.length → d < k → herdsmanref1_Ints.l0 k a a (i : Int) = some true := by
    intro d
    induction d with
    | zero =>
      intro i k hi hk
      obtain ⟨k, rfl⟩ : ∃ m, k = m + 1 := ⟨k - 1, by omega⟩
      rw [herdsmanref1_Ints.l0, if_neg (by omega)]
    | succ d ih =>
      intro i k hi hk
      obtain ⟨k, rfl⟩ : ∃ m, k = m + 1 := ⟨k - 1, by omega⟩
      rw [herdsmanref1_Ints.l0, if_pos (by omega), if_pos (by omega), if_pos (by omega), if_pos rfl, w64 (by omega) (by omega)]
      exact ih (i + 1) k (by omega) (by omega)
  exact key a.length 0 k (by omega) hk

theorem spread_some {W H : Int} {C : List Int} {l : List Seed} (hb : ∀ x ∈ C, 0 ≤ x ∧ x ≤ 255) (hs : SeedsOk W H C l) (hl : l.length < 5864062014805) : spreadF W H C l = some (distOf W C l, 0) := by
  unfold spreadF
  rw [if_pos hs, if_pos ⟨hb, hl⟩]
end Go.Proofs.Ytgcfcemgeppkmaa.P
namespace Go.Proofs.Ytgcfcemgeppkmaa.P
open Go.RowKit Go.Proofs.YtgcfcemgeppkmaaW.PrintWords Go.Proofs.YtgcfcemgeppkmaaW.PrintLast Go.Proofs.YtgcfcemgeppkmaaW.PrintMore
open Go.Proofs.Ytgcfcemgeppkmaa.Dist
set_option linter.unusedVariables false
set_option linter.unusedSimpArgs false

theorem mn_min (a b : Int) : mn a b = min a b := by unfold mn; split <;> omega
theorem SeedsOk.sub {W H : Int} {C : List Int} {s s' : List Seed} (h : SeedsOk W H C s) (hs : ∀ x, x ∈ s' → x ∈ s) : SeedsOk W H C s' := ⟨h.1, fun x hx => h.2 x (hs x hx)⟩
theorem dist_len {W H : Int} {C : List Int} (hb : ∀ x ∈ C, 0 ≤ x ∧ x ≤ 255) {s : List Seed} (h : SeedsOk W H C s) : (distOf W C s).length = C.length := (distOf_spec hb h).1
theorem parts_law {W H : Int} {C : List Int} (hb : ∀ x ∈ C, 0 ≤ x ∧ x ≤ 255) {s : List Seed} (h : SeedsOk W H C s) (n : Nat) (i : Nat) (hi : i < C.length) :
    rd (distOf W C s) i = mn (rd (distOf W C (s.take n)) i) (rd (distOf W C (s.drop n)) i) := by
  have hA := distOf_spec hb (h.sub (s' := s.take n) (fun x hx => List.mem_of_mem_take hx))
  have hB := distOf_spec hb (h.sub (s' := s.drop n) (fun x hx => List.mem_of_mem_drop hx))
  have hD := distOf_spec hb h
  rw [mn_min]
  refine parts (g := grT W C s) (a := (grT W C (s.take n)).src) (b := (grT W C (s.drop n)).src) (fun i k _ => ?_) (fun j hj ho => (costs_pos hb h.1 s j hj ho).1) hD.2 hA.2 hB.2 i hi
  constructor
  · rintro ⟨x, hx, e⟩
    rw [← List.take_append_drop n s, List.mem_append] at hx
    rcases hx with hx | hx
    · exact .inl ⟨x, hx, e⟩
    · exact .inr ⟨x, hx, e⟩
  · rintro (⟨x, hx, e⟩ | ⟨x, hx, e⟩)
    · exact ⟨x, List.mem_of_mem_take hx, e⟩
    · exact ⟨x, List.mem_of_mem_drop hx, e⟩

theorem told_ok : SeedsOk 3 1 [5, 2, 9] [⟨2, 4, 0⟩] := by
  refine ⟨by unfold TileOk; decide, fun x hx => ?_⟩
  obtain rfl : x = ⟨2, 4, 0⟩ := by simpa using hx
  unfold SeedOk OutOk rd
  simp
theorem told_dist : distOf 3 [5, 2, 9] [⟨2, 4, 0⟩] = [11, 9, 0] := by
  have hb : ∀ x ∈ ([5, 2, 9] : List Int), 0 ≤ x ∧ x ≤ 255 := by simp
  refine distOf_eq hb told_ok.1 ⟨rfl, fun i hi => ?_, fun i hi => ?_⟩
  · have h3 : i < 3 := hi
    refine ⟨?_, fun _ => ⟨?_, fun j hj had ho => ?_⟩⟩
    · rcases (show i = 0 ∨ i = 1 ∨ i = 2 by omega) with rfl | rfl | rfl <;> simp [rd, grT, INF]
    · rintro k ⟨x, hx, e0, e2⟩
      obtain rfl : x = ⟨2, 4, 0⟩ := by simpa using hx
      have : i = 2 := by have : (2 : Int) = (i : Int) := e0; omega
      subst this
      have : (0 : Int) = k := e2
      subst this
      simp [rd]
    · have hj3 : j < 3 := hj
      have had' : AdjT 3 i j := had
      unfold AdjT at had'
      rcases (show i = 0 ∨ i = 1 ∨ i = 2 by omega) with rfl | rfl | rfl <;> rcases (show j = 0 ∨ j = 1 ∨ j = 2 by omega) with rfl | rfl | rfl <;> simp [rd, grT] <;> simp at had'
  · have h3 : i < 3 := hi
    rcases (show i = 0 ∨ i = 1 ∨ i = 2 by omega) with rfl | rfl | rfl
    · refine ⟨by simp [rd], .inr ⟨by simp [grT, rd], .inr ⟨1, by simp [grT], ?_, by simp [grT, rd], by simp [grT, rd]⟩⟩⟩
      show AdjT 3 _ _
      unfold AdjT
      simp
    · refine ⟨by simp [rd], .inr ⟨by simp [grT, rd], .inr ⟨2, by simp [grT], ?_, by simp [grT, rd], by simp [grT, rd]⟩⟩⟩
      show AdjT 3 _ _
      unfold AdjT
      simp
    · exact ⟨by simp [rd], .inr ⟨by simp [grT, rd], .inl ⟨⟨2, 4, 0⟩, by simp, rfl, by simp [rd]⟩⟩⟩
end Go.Proofs.Ytgcfcemgeppkmaa.P
namespace Go.Proofs.Ytgcfcemgeppkmaa.P
open Go.RowKit Go.Proofs.YtgcfcemgeppkmaaW.PrintWords Go.Proofs.YtgcfcemgeppkmaaW.PrintLast Go.Proofs.YtgcfcemgeppkmaaW.PrintMore
open Go.Proofs.Ytgcfcemgeppkmaa.Dist
set_option linter.unusedVariables false
set_option linter.unusedSimpArgs false

theorem few_some (l : List Int) : herdsmanlaw9_few.f l = some (l.take (min l.length 24)) := by
  unfold herdsmanlaw9_few.f mn
  split
  · rw [if_pos (by omega), if_pos (by omega)]
    congr 2; omega
  · rw [if_pos (by omega), if_pos (by omega)]
    congr 2; omega

end Go.Proofs.Ytgcfcemgeppkmaa.P
namespace Go.Proofs.Ytgcfcemgeppkmaa.P
open Go.RowKit Go.Proofs.YtgcfcemgeppkmaaW.PrintWords Go.Proofs.YtgcfcemgeppkmaaW.PrintLast Go.Proofs.YtgcfcemgeppkmaaW.PrintMore
open Go.Proofs.Ytgcfcemgeppkmaa.Dist
set_option linter.unusedVariables false
set_option linter.unusedSimpArgs false

theorem sweep_some {W H : Int} {C : List Int} {l : List Seed} (hb : ∀ x ∈ C, 0 ≤ x ∧ x ≤ 255) (hs : SeedsOk W H C l) (hl : l.length ≤ 1000000) : sweep_Spread.f W H C l = some (distOf W C l, 0) := spread_some hb hs (by omega)
theorem told9_some (k : Nat) (hk : 3 < k) : herdsmanlaw9_told.f k = some true := by
  unfold herdsmanlaw9_told.f
  rw [sweep_some (by simp) told_ok (by simp), Option.bind_some, told_dist]
  dsimp only
  rw [if_pos rfl, ints_self _ (by simp) k (by simpa using hk), Option.bind_some]
/-- The beginning: a tile, seeds of at most 24 numbers. -/
theorem begin9 (a0 a1 : Int) (l2 l3 : List Int) (h2 : l2.length * 1 ≤ 140737488351232) (hb2 : ∀ x ∈ l2, (Lit.int .u8 x).wf = true) :
    ∃ W H C s, (∀ k, 300 ≤ k → herdsmanref1_MadeTile.f k a0 a1 l2 = some (W, H, C)) ∧ herdsmanlaw9_few.f l3 = some (l3.take (min l3.length 24)) ∧ herdsmanref7_Seeds.f W H C (l3.take (min l3.length 24)) = some s ∧ SeedsOk W H C s ∧ (∀ x ∈ C, 0 ≤ x ∧ x ≤ 255) ∧ s.length ≤ 24 ∧ C.length ≤ 256 ∧ 1 ≤ C.length := by
  obtain ⟨W, H, C, hM, ht, hb⟩ := madeTile_some a0 a1 l2 (u8_wf hb2) (by omega)
  have hlen : (l3.take (min l3.length 24)).length ≤ 24 := by rw [List.length_take]; omega
  have hsl := seedsOf_len W H C (l3.take (min l3.length 24))
  have hC : C.length ≤ 256 ∧ 1 ≤ C.length := by
    obtain ⟨a1, a2, a3, a4, a5, a6⟩ := ht
    have := mul_small ⟨a1, a2⟩ ⟨a3, a4⟩
    omega
  exact ⟨W, H, C, seedsOf W H C (l3.take (min l3.length 24)), hM, few_some l3, seeds_some ht _ (by omega), seedsOf_ok ht _, hb, by omega, hC⟩
end Go.Proofs.Ytgcfcemgeppkmaa.P
namespace Go.Proofs.Ytgcfcemgeppkmaa.P
open Go.RowKit Go.Proofs.YtgcfcemgeppkmaaW.PrintWords Go.Proofs.YtgcfcemgeppkmaaW.PrintLast Go.Proofs.YtgcfcemgeppkmaaW.PrintMore
open Go.Proofs.Ytgcfcemgeppkmaa.Dist
set_option linter.unusedVariables false
set_option linter.unusedSimpArgs false

theorem rdT_get (xs : List Seed) {i : Nat} (h : i < xs.length) : rd_T25 xs (i : Int) = xs[i] := by
  unfold rd_T25
  rw [Int.toNat_natCast, List.getD_eq_getElem?_getD, List.getElem?_eq_getElem h]
  rfl
/-- A key brought below a bound. -/
def redS (y : Seed) : Seed := ⟨y.f0, y.f1, y.f2 % 1048577⟩
/-- So much later. -/
def lateS (x : Int) (y : Seed) : Seed := ⟨y.f0, y.f1, y.f2 + x⟩
theorem red_ok {W H : Int} {C : List Int} {s : List Seed} (h : SeedsOk W H C s) : SeedsOk W H C (s.map redS) := by
  refine ⟨h.1, fun y hy => ?_⟩
  obtain ⟨z, hz, rfl⟩ := List.mem_map.1 hy
  obtain ⟨h1, h2, h3, h4, h5, h6⟩ := h.2 z hz
  refine ⟨h1, h2, h3, ?_, ?_, h6⟩ <;> unfold redS <;> dsimp only <;> omega
theorem late_ok {W H : Int} {C : List Int} {s : List Seed} (h : SeedsOk W H C s) {x : Int} (hx : 0 ≤ x ∧ x ≤ 1048576) : SeedsOk W H C ((s.map redS).map (lateS x)) := by
  refine ⟨h.1, fun y hy => ?_⟩
  obtain ⟨y1, hy1, rfl⟩ := List.mem_map.1 hy
  obtain ⟨z, hz, rfl⟩ := List.mem_map.1 hy1
  obtain ⟨h1, h2, h3, h4, h5, h6⟩ := h.2 z hz
  refine ⟨h1, h2, h3, ?_, ?_, h6⟩ <;> unfold lateS redS <;> dsimp only <;> omega
theorem later_law {W H : Int} {C : List Int} (hb : ∀ x ∈ C, 0 ≤ x ∧ x ≤ 255) {s : List Seed} (h : SeedsOk W H C s) {x : Int} (hx : 0 ≤ x ∧ x ≤ 1048576) (hC : C.length ≤ 256) (i : Nat) (hi : i < C.length) :
    (rd (distOf W C (s.map redS)) i < 1099511627776 → rd (distOf W C ((s.map redS).map (lateS x))) i = rd (distOf W C (s.map redS)) i + x) ∧ (1099511627776 ≤ rd (distOf W C (s.map redS)) i → rd (distOf W C ((s.map redS).map (lateS x))) i = 1099511627776) := by
  have hA := distOf_spec hb (red_ok h)
  have hB := distOf_spec hb (late_ok h hx)
  refine later (g := grT W C (s.map redS)) (b := (grT W C ((s.map redS).map (lateS x))).src) (x := x) (K := 1048576) (M := 254) hx.1 (fun i k _ => ?_) (fun j hj ho => (costs_pos hb h.1 _ j hj ho).1) (by decide) (fun j hj ho => (costs_pos hb h.1 _ j hj ho).2) (fun i k _ hk => ?_) ?_ hA.2 hB.2 i hi
  · constructor
    · rintro ⟨y, hy, e0, e2⟩
      obtain ⟨y1, hy1, rfl⟩ := List.mem_map.1 hy
      exact ⟨y1, hy1, e0, by have : y1.f2 + x = k := e2; omega⟩
    · rintro ⟨y, hy, e0, e2⟩
      exact ⟨lateS x y, List.mem_map_of_mem hy, e0, by show y.f2 + x = k; omega⟩
  · obtain ⟨y, hy, e0, e2⟩ := hk
    obtain ⟨z, hz, rfl⟩ := List.mem_map.1 hy
    have : z.f2 % 1048577 = k := e2
    omega
  · show 1048576 + 254 * (C.length : Int) + x < 1099511627776
    omega
end Go.Proofs.Ytgcfcemgeppkmaa.P
namespace Go.Proofs.Ytgcfcemgeppkmaa.P
open Go.RowKit Go.Proofs.YtgcfcemgeppkmaaW.PrintWords Go.Proofs.YtgcfcemgeppkmaaW.PrintLast Go.Proofs.YtgcfcemgeppkmaaW.PrintMore
set_option linter.unusedVariables false
set_option linter.unusedSimpArgs false

end Go.Proofs.Ytgcfcemgeppkmaa.P
namespace Go.Proofs.Ytgcfcemgeppkmaa.P
open Go.RowKit Go.Proofs.YtgcfcemgeppkmaaW.PrintWords Go.Proofs.YtgcfcemgeppkmaaW.PrintLast Go.Proofs.YtgcfcemgeppkmaaW.PrintMore
open Go.Proofs.Ytgcfcemgeppkmaa.Dist
set_option linter.unusedVariables false
set_option linter.unusedSimpArgs false

/-- The cell over a side lies there, and is beside. -/
theorem nb_in {W H c s : Int} {n : Nat} (hW : 1 ≤ W ∧ W ≤ 16) (hH : 1 ≤ H ∧ H ≤ 16) (hn : (n : Int) = W * H) (h0 : 0 ≤ c) (h1 : c < n) (hs : 0 ≤ s ∧ s ≤ 3) (ho : ¬ OutE W H c s) : 0 ≤ nbS W c s ∧ nbS W c s < n ∧ AdjT W c (nbS W c s) := by
  have hm := mul_small hW hH
  have hd0 : 0 ≤ c / W := Int.ediv_nonneg h0 (by omega)
  have hdm := Int.mul_ediv_add_emod c W
  have hr0 : 0 ≤ c % W := Int.emod_nonneg _ (by omega)
  have hrW : c % W < W := Int.emod_lt_of_pos _ (by omega)
  have hge : ∀ k : Int, k ≤ c / W → W * k ≤ W * (c / W) := fun k hk => Int.mul_le_mul_of_nonneg_left hk (by omega)
  have hle : ∀ k : Int, c / W ≤ k → W * (c / W) ≤ W * k := fun k hk => Int.mul_le_mul_of_nonneg_left hk (by omega)
  have hdH : c / W < H := by
    rcases Int.lt_or_le (c / W) H with h | h
    · exact h
    · have := hge H h
      omega
  unfold OutE at ho
  rcases (show s = 0 ∨ s = 1 ∨ s = 2 ∨ s = 3 by omega) with rfl | rfl | rfl | rfl
  · have h2 := hge 1 (by omega)
    simp only [nbS, if_true]
    unfold AdjT
    omega
  · have h2 := hle (H - 1) (by omega)
    rw [Int.mul_sub, Int.mul_one] at h2
    rw [show nbS W c 1 = c + 1 by simp [nbS]]
    unfold AdjT
    omega
  · have h2 := hle (H - 2) (by omega)
    rw [Int.mul_sub] at h2
    rw [show nbS W c 2 = c + W by simp [nbS]]
    unfold AdjT
    omega
  · rw [show nbS W c 3 = c - 1 by simp [nbS]]
    have hq : 0 ≤ W * (c / W) := Int.mul_nonneg (by omega) hd0
    unfold AdjT
    omega
/-- What is beside a cell lies over a side. -/
theorem nb_of {W H c j : Int} {n : Nat} (hW : 1 ≤ W ∧ W ≤ 16) (hH : 1 ≤ H ∧ H ≤ 16) (hn : (n : Int) = W * H) (h0 : 0 ≤ c) (h1 : c < n) (hj0 : 0 ≤ j) (hj1 : j < n) (ha : AdjT W c j) : ∃ s, (0 ≤ s ∧ s ≤ 3) ∧ ¬ OutE W H c s ∧ nbS W c s = j := by
  have hm := mul_small hW hH
  have hd0 : 0 ≤ c / W := Int.ediv_nonneg h0 (by omega)
  have hdm := Int.mul_ediv_add_emod c W
  have hr0 : 0 ≤ c % W := Int.emod_nonneg _ (by omega)
  have hrW : c % W < W := Int.emod_lt_of_pos _ (by omega)
  unfold AdjT at ha
  rcases ha with h | h | h | h
  · refine ⟨0, by omega, ?_, by unfold nbS; rw [if_pos rfl]; omega⟩
    unfold OutE
    rintro (⟨_, h2⟩ | ⟨h2, _⟩ | ⟨h2, _⟩ | ⟨h2, _⟩)
    · rw [h2] at hdm; omega
    all_goals omega
  · refine ⟨1, by omega, ?_, by simp [nbS]; omega⟩
    unfold OutE
    omega
  · refine ⟨2, by omega, ?_, by simp [nbS]; omega⟩
    unfold OutE
    rintro (⟨h2, _⟩ | ⟨h2, _⟩ | ⟨_, h2⟩ | ⟨h2, _⟩)
    · omega
    · omega
    · rw [h2, Int.mul_sub, Int.mul_one] at hdm; omega
    · omega
  · refine ⟨3, by omega, ?_, by simp [nbS]; omega⟩
    unfold OutE
    omega

/-- The least of what seeds say. -/
def seedMin (l : List Seed) (i m : Int) : Int := l.foldl (fun m x => if x.f0 = i then min m x.f2 else m) m
theorem seedMin_le (l : List Seed) (i m : Int) : seedMin l i m ≤ m := by
  unfold seedMin
  induction l generalizing m with
  | nil => exact Int.le_refl _
  | cons y r ih =>
    rw [List.foldl_cons]
    have := ih (if y.f0 = i then min m y.f2 else m)
    split at this <;> split <;> omega
theorem seedMin_mem (l : List Seed) (i m : Int) (x : Seed) (hx : x ∈ l) (hi : x.f0 = i) : seedMin l i m ≤ x.f2 := by
  induction l generalizing m with
  | nil => simp at hx
  | cons y r ih =>
    rcases List.mem_cons.1 hx with rfl | hx
    · have := seedMin_le r i (if x.f0 = i then min m x.f2 else m)
      unfold seedMin at *
      rw [List.foldl_cons]
      rw [if_pos hi] at *
      omega
    · have := ih (if y.f0 = i then min m y.f2 else m) hx
      unfold seedMin at *
      rw [List.foldl_cons]
      exact this
theorem le_seedMin (l : List Seed) (i m d : Int) (hm : d ≤ m) (h : ∀ x, x ∈ l → x.f0 = i → d ≤ x.f2) : d ≤ seedMin l i m := by
  induction l generalizing m with
  | nil => exact hm
  | cons y r ih =>
    unfold seedMin
    rw [List.foldl_cons]
    refine ih _ ?_ (fun x hx => h x (by simp [hx]))
    split
    · rename_i e
      have := h y (by simp) e
      omega
    · exact hm
/-- What is told over one side. -/
def sideMin (W H : Int) (C D : List Int) (i s m : Int) : Int := if OutE W H i s then m else if rd C (nbS W i s) = 255 then m else min m (rd D (nbS W i s) + rd C (nbS W i s))
def sidesMin (W H : Int) (C D : List Int) (i m : Int) : Int := sideMin W H C D i 3 (sideMin W H C D i 2 (sideMin W H C D i 1 (sideMin W H C D i 0 m)))

/-- Over an open side no cell is nearer than by it. -/
theorem dist_side {W H : Int} {C : List Int} (hb : ∀ x ∈ C, 0 ≤ x ∧ x ≤ 255) {l : List Seed} (h : SeedsOk W H C l) {i : Nat} (hi : i < C.length) (ho : rd C i ≠ 255) {s : Int} (hs : 0 ≤ s ∧ s ≤ 3) (hs' : ¬ OutE W H i s) (hno : rd C (nbS W i s) ≠ 255) :
    ∃ j : Nat, j < C.length ∧ (j : Int) = nbS W i s ∧ rd (distOf W C l) i ≤ rd (distOf W C l) j + rd C j := by
  obtain ⟨a1, a2, a3, a4, a5, a6⟩ := h.1
  obtain ⟨b0, b1, b2⟩ := nb_in ⟨a1, a2⟩ ⟨a3, a4⟩ a5 (show (0 : Int) ≤ (i : Int) by omega) (by omega) hs hs'
  obtain ⟨j, hj⟩ : ∃ j : Nat, (j : Int) = nbS W i s := ⟨(nbS W i s).toNat, by omega⟩
  rw [← hj] at b1 b2 hno
  exact ⟨j, by omega, hj, (((distOf_spec hb h).2.1 i hi).2 ho).2 j (show j < C.length by omega) b2 hno⟩

theorem fixed_open {W H : Int} {C : List Int} (hb : ∀ x ∈ C, 0 ≤ x ∧ x ≤ 255) {l : List Seed} (h : SeedsOk W H C l) {i : Nat} (hi : i < C.length) (ho : rd C i ≠ 255) :
    rd (distOf W C l) i = min (sidesMin W H C (distOf W C l) i (seedMin l i INF)) INF := by
  obtain ⟨a1, a2, a3, a4, a5, a6⟩ := h.1
  have hD := distOf_spec hb h
  have hU := hD.2.1 i hi
  have hA := hD.2.2 i hi
  have h1 : rd (distOf W C l) i ≤ INF := hU.1
  have h2 : rd (distOf W C l) i ≤ seedMin l i INF := le_seedMin _ _ _ _ h1 (fun x hx hxi => (hU.2 ho).1 _ ⟨x, hx, hxi, rfl⟩)
  have hside : ∀ s m, 0 ≤ s ∧ s ≤ 3 → rd (distOf W C l) i ≤ m → rd (distOf W C l) i ≤ sideMin W H C (distOf W C l) i s m := by
    intro s m hs hm
    unfold sideMin
    split
    · exact hm
    · rename_i hs'
      split
      · exact hm
      · rename_i hno
        obtain ⟨j, hj, hje, hle⟩ := dist_side hb h hi ho hs hs' hno
        rw [← hje]
        omega
  have hdec : ∀ s m, sideMin W H C (distOf W C l) i s m ≤ m := by
    intro s m
    unfold sideMin
    split
    · exact Int.le_refl _
    · split
      · exact Int.le_refl _
      · exact Int.min_le_left _ _
  have hup : rd (distOf W C l) i ≤ sidesMin W H C (distOf W C l) i (seedMin l i INF) := hside 3 _ (by omega) (hside 2 _ (by omega) (hside 1 _ (by omega) (hside 0 _ (by omega) h2)))
  have d0 := hdec 0 (seedMin l i INF)
  have d1 := hdec 1 (sideMin W H C (distOf W C l) i 0 (seedMin l i INF))
  have d2 := hdec 2 (sideMin W H C (distOf W C l) i 1 (sideMin W H C (distOf W C l) i 0 (seedMin l i INF)))
  have d3 := hdec 3 (sideMin W H C (distOf W C l) i 2 (sideMin W H C (distOf W C l) i 1 (sideMin W H C (distOf W C l) i 0 (seedMin l i INF))))
  have hlow : min (sidesMin W H C (distOf W C l) i (seedMin l i INF)) INF ≤ rd (distOf W C l) i := by
    rcases hA.2 with e | ⟨_, ⟨x, hx, hxi, hxk⟩ | ⟨j, hj, hadj, hoj, e⟩⟩
    · have e' : rd (distOf W C l) i = INF := e
      omega
    · have e1 := seedMin_mem l i INF x hx hxi
      have e2 : x.f2 = rd (distOf W C l) i := hxk
      unfold sidesMin
      omega
    · have e' : rd (distOf W C l) i = rd (distOf W C l) j + rd C j := e
      have hoj' : rd C (j : Int) ≠ 255 := hoj
      have hj' : j < C.length := hj
      obtain ⟨s, hs, hs', hje⟩ := nb_of ⟨a1, a2⟩ ⟨a3, a4⟩ a5 (show (0 : Int) ≤ (i : Int) by omega) (by omega) (show (0 : Int) ≤ (j : Int) by omega) (by omega) hadj
      have hv : ∀ m, sideMin W H C (distOf W C l) i s m ≤ rd (distOf W C l) i := by
        intro m
        unfold sideMin
        rw [if_neg hs', hje, if_neg hoj', e']
        exact Int.min_le_right _ _
      unfold sidesMin
      rcases (show s = 0 ∨ s = 1 ∨ s = 2 ∨ s = 3 by omega) with rfl | rfl | rfl | rfl
      · have := hv (seedMin l i INF); omega
      · have := hv (sideMin W H C (distOf W C l) i 0 (seedMin l i INF)); omega
      · have := hv (sideMin W H C (distOf W C l) i 1 (sideMin W H C (distOf W C l) i 0 (seedMin l i INF))); omega
      · have := hv (sideMin W H C (distOf W C l) i 2 (sideMin W H C (distOf W C l) i 1 (sideMin W H C (distOf W C l) i 0 (seedMin l i INF)))); omega
  omega
theorem fixed_wall {W H : Int} {C : List Int} (hb : ∀ x ∈ C, 0 ≤ x ∧ x ≤ 255) {l : List Seed} (h : SeedsOk W H C l) {i : Nat} (hi : i < C.length) (ho : rd C i = 255) : rd (distOf W C l) i = INF := by
  rcases ((distOf_spec hb h).2.2 i hi).2 with e | ⟨ho', _⟩
  · exact e
  · exact absurd ho ho'
/-- How great and small distances are. -/
theorem dist_range {W H : Int} {C : List Int} (hb : ∀ x ∈ C, 0 ≤ x ∧ x ≤ 255) {l : List Seed} (h : SeedsOk W H C l) {i : Nat} (hi : i < C.length) : 0 ≤ rd (distOf W C l) i ∧ rd (distOf W C l) i ≤ INF :=
  ⟨((distOf_spec hb h).2.2 i hi).1, ((distOf_spec hb h).2.1 i hi).1⟩
end Go.Proofs.Ytgcfcemgeppkmaa.P
