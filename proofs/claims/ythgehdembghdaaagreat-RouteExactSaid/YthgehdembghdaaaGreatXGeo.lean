/-
 PLAIN: the geometry of a map's sectors: cells, sectors, locals, neighbours, nodes.
-/
import Derived.Test.YthgehdembghdaaaGreatXTab1
namespace Go.Proofs.YthgehdembghdaaaGreat.Geo
open Go.RowKit Go.Proofs.YthgehdembghdaaaGreatW.PrintWords Go.Proofs.YthgehdembghdaaaGreatW.PrintLast Go.Proofs.YthgehdembghdaaaGreatW.PrintMore
open Go.Proofs.YthgehdembghdaaaGreat.P Go.Proofs.YthgehdembghdaaaGreat.Dist
set_option linter.unusedVariables false
set_option linter.unusedSimpArgs false
def acr (n : Int) : Int := (n + 15) / 16
def sx (W s : Int) : Int := s % acr W * 16
def sy (W s : Int) : Int := s / acr W * 16
def tw (W s : Int) : Int := if W - sx W s < 16 then W - sx W s else 16
def th (W H s : Int) : Int := if H - sy W s < 16 then H - sy W s else 16
def glo (W s l : Int) : Int := (sy W s + l / tw W s) * W + (sx W s + l % tw W s)
def sec (W c : Int) : Int := c / W / 16 * acr W + c % W / 16
def loc (W c : Int) : Int := c / W % 16 * tw W (sec W c) + c % W % 16
def cnt (W H : Int) : Int := acr W * acr H
structure Dim (W H : Int) : Prop where
 w : 1 ≤ W ∧ W ≤ 1024
 h : 1 ≤ H ∧ H ≤ 1024
variable {W H : Int}
theorem dm {W x y : Int} (h0 : 0 ≤ x) (h1 : x < W) : (y * W + x) / W = y ∧ (y * W + x) % W = x := by
 have hW : W ≠ 0 := by omega
 constructor
 ·rw [Int.add_comm, Int.add_mul_ediv_right _ _ hW, Int.ediv_eq_zero_of_lt h0 h1]; omega
 ·rw [Int.add_comm, Int.add_mul_emod_self_right]; exact Int.emod_eq_of_lt h0 h1
theorem dm' {W : Int} (c : Int) : c / W * W + c % W = c := by
 have := Int.emod_add_ediv_mul c W; omega
theorem row_lt {A B q p : Int} (hp : p < A) (hA : 0 < A) (hq : q < B) : q * A + p < A * B := by
 have h1 : (q + 1) * A ≤ B * A := Int.mul_le_mul_of_nonneg_right (by omega) (by omega)
 rw [Int.add_mul, Int.one_mul] at h1
 rw [Int.mul_comm A B]; omega
theorem div_lt {A B c : Int} (hA : 0 < A) (h : c < A * B) : c / A < B := by
 exact Int.ediv_lt_of_lt_mul hA (by rw [Int.mul_comm]; exact h)
theorem acr_b {n : Int} (h : 1 ≤ n) : 1 ≤ acr n ∧ n ≤ 16 * acr n ∧ 16 * (acr n - 1) < n := by unfold acr; omega
theorem acr_le {n : Int} (h : n ≤ 1024) : acr n ≤ 64 := by unfold acr; omega
theorem cnt_le (h : Dim W H) : 1 ≤ cnt W H ∧ cnt W H ≤ 4096 := by
 have a := acr_b h.w.1; have b := acr_b h.h.1
 have a' := acr_le h.w.2; have b' := acr_le h.h.2
 unfold cnt
 constructor
 ·have := Int.mul_le_mul a.1 b.1 (by omega) (by omega); simpa using this
 ·have := Int.mul_le_mul a' b' (by omega) (by omega); simpa using this
theorem wh_le (h : Dim W H) : 1 ≤ W * H ∧ W * H ≤ 1048576 := by
 constructor
 ·have := Int.mul_le_mul h.w.1 h.h.1 (by omega) (by have := h.w; omega); simpa using this
 ·have := Int.mul_le_mul h.w.2 h.h.2 (by have := h.h; omega) (by omega); simpa using this
theorem cell_xy (h : Dim W H) {c : Int} (h0 : 0 ≤ c) (h1 : c < W * H) : (0 ≤ c % W ∧ c % W < W) ∧ 0 ≤ c / W ∧ c / W < H :=
 have hW : 0 < W := by have := h.w; omega
 ⟨⟨Int.emod_nonneg _ (by omega), Int.emod_lt_of_pos _ hW⟩, Int.ediv_nonneg h0 (by omega), div_lt hW h1⟩
theorem xy_cell (h : Dim W H) {x y : Int} (hx : 0 ≤ x ∧ x < W) (hy : 0 ≤ y ∧ y < H) : 0 ≤ y * W + x ∧ y * W + x < W * H := by
 have h1 : 0 ≤ y * W := Int.mul_nonneg hy.1 (by omega)
 exact ⟨by omega, row_lt hx.2 (by omega) hy.2⟩
theorem sec_box (h : Dim W H) {s : Int} (h0 : 0 ≤ s) (h1 : s < cnt W H) : 0 ≤ sx W s ∧ sx W s + tw W s ≤ W ∧ 0 ≤ sy W s ∧ sy W s + th W H s ≤ H ∧ (1 ≤ tw W s ∧ tw W s ≤ 16) ∧ (1 ≤ th W H s ∧ th W H s ≤ 16) := by
 have a := acr_b h.w.1; have b := acr_b h.h.1
 have hp : 0 ≤ s % acr W ∧ s % acr W < acr W := ⟨Int.emod_nonneg _ (by omega), Int.emod_lt_of_pos _ (by omega)⟩
 have hq : 0 ≤ s / acr W ∧ s / acr W < acr H := ⟨Int.ediv_nonneg h0 (by omega), div_lt (by omega) h1⟩
 unfold tw th sx sy
 split <;> split <;> omega
theorem secXY (h : Dim W H) {x y : Int} (hx : 0 ≤ x ∧ x < W) (hy : 0 ≤ y ∧ y < H) :
  (0 ≤ y / 16 * acr W + x / 16 ∧ y / 16 * acr W + x / 16 < cnt W H) ∧ sx W (y / 16 * acr W + x / 16) = x / 16 * 16 ∧ sy W (y / 16 * acr W + x / 16) = y / 16 * 16 := by
 have a := acr_b h.w.1; have b := acr_b h.h.1
 have e := dm (W := acr W) (x := x / 16) (y := y / 16) (by omega) (by omega)
 have h2 : 0 ≤ y / 16 * acr W := Int.mul_nonneg (by omega) (by omega)
 unfold sx sy
 rw [e.1, e.2]
 exact ⟨⟨by omega, row_lt (by omega) (by omega) (by omega)⟩, rfl, rfl⟩
theorem sec_rng (h : Dim W H) {c : Int} (h0 : 0 ≤ c) (h1 : c < W * H) : 0 ≤ sec W c ∧ sec W c < cnt W H := (secXY h (cell_xy h h0 h1).1 (cell_xy h h0 h1).2).1
theorem sec_at (h : Dim W H) {c : Int} (h0 : 0 ≤ c) (h1 : c < W * H) : sx W (sec W c) = c % W / 16 * 16 ∧ sy W (sec W c) = c / W / 16 * 16 := (secXY h (cell_xy h h0 h1).1 (cell_xy h h0 h1).2).2
theorem mul_div {t x y : Int} (h0 : 0 ≤ x) (h1 : x < t) : (y * t + x) / t = y ∧ (y * t + x) % t = x := dm h0 h1
theorem loc_at (h : Dim W H) {c : Int} (h0 : 0 ≤ c) (h1 : c < W * H) : c % W % 16 < tw W (sec W c) ∧ c / W % 16 < th W H (sec W c) := by
 have e := sec_at h h0 h1; have p := cell_xy h h0 h1
 unfold tw th
 rw [e.1, e.2]
 split <;> split <;> omega
theorem loc_rng (h : Dim W H) {c : Int} (h0 : 0 ≤ c) (h1 : c < W * H) : 0 ≤ loc W c ∧ loc W c < tw W (sec W c) * th W H (sec W c) := by
 have l := loc_at h h0 h1; have b := sec_box h (sec_rng h h0 h1).1 (sec_rng h h0 h1).2
 unfold loc
 have : 0 ≤ c / W % 16 * tw W (sec W c) := Int.mul_nonneg (by omega) (by omega)
 exact ⟨by omega, row_lt l.1 (by omega) l.2⟩
theorem glo_loc (h : Dim W H) {c : Int} (h0 : 0 ≤ c) (h1 : c < W * H) : glo W (sec W c) (loc W c) = c := by
 have l := loc_at h h0 h1; have e := sec_at h h0 h1
 have d := mul_div (t := tw W (sec W c)) (x := c % W % 16) (y := c / W % 16) (by omega) l.1
 unfold glo
 rw [show loc W c = c / W % 16 * tw W (sec W c) + c % W % 16 from rfl, d.1, d.2, e.1, e.2]
 have e1 : c / W / 16 * 16 + c / W % 16 = c / W := by omega
 have e2 : c % W / 16 * 16 + c % W % 16 = c % W := by omega
 rw [e1, e2]; exact dm' c
theorem loc_xy (h : Dim W H) {s l : Int} (h0 : 0 ≤ s) (h1 : s < cnt W H) (l0 : 0 ≤ l) (l1 : l < tw W s * th W H s) : (0 ≤ l % tw W s ∧ l % tw W s < tw W s) ∧ 0 ≤ l / tw W s ∧ l / tw W s < th W H s := by
 have b := sec_box h h0 h1
 exact ⟨⟨Int.emod_nonneg _ (by omega), Int.emod_lt_of_pos _ (by omega)⟩, Int.ediv_nonneg l0 (by omega), div_lt (by omega) l1⟩
theorem glo_rng (h : Dim W H) {s l : Int} (h0 : 0 ≤ s) (h1 : s < cnt W H) (l0 : 0 ≤ l) (l1 : l < tw W s * th W H s) : 0 ≤ glo W s l ∧ glo W s l < W * H := by
 have b := sec_box h h0 h1; have p := loc_xy h h0 h1 l0 l1
 exact xy_cell h (by omega) (by omega)
theorem glo_xy (h : Dim W H) {s l : Int} (h0 : 0 ≤ s) (h1 : s < cnt W H) (l0 : 0 ≤ l) (l1 : l < tw W s * th W H s) : glo W s l % W = sx W s + l % tw W s ∧ glo W s l / W = sy W s + l / tw W s := by
 have b := sec_box h h0 h1; have p := loc_xy h h0 h1 l0 l1
 have d := dm (W := W) (x := sx W s + l % tw W s) (y := sy W s + l / tw W s) (by omega) (by omega)
 exact ⟨d.2, d.1⟩
theorem sec_glo (h : Dim W H) {s l : Int} (h0 : 0 ≤ s) (h1 : s < cnt W H) (l0 : 0 ≤ l) (l1 : l < tw W s * th W H s) : sec W (glo W s l) = s := by
 have b := sec_box h h0 h1; have p := loc_xy h h0 h1 l0 l1; have e := glo_xy h h0 h1 l0 l1
 unfold sec
 rw [e.1, e.2]
 have e1 : (sy W s + l / tw W s) / 16 = s / acr W := by unfold sy; omega
 have e2 : (sx W s + l % tw W s) / 16 = s % acr W := by unfold sx; omega
 rw [e1, e2]; exact dm' s
theorem s4 {s : Int} (hs : 0 ≤ s ∧ s ≤ 3) : s = 0 ∨ s = 1 ∨ s = 2 ∨ s = 3 := by omega
theorem nb_xy (h : Dim W H) {c : Int} (h0 : 0 ≤ c) (h1 : c < W * H) {s : Int} (hs : 0 ≤ s ∧ s ≤ 3) (ho : ¬ OutE W H c s) :
  nbS W c s % W = c % W + (if s = 1 then 1 else if s = 3 then -1 else 0) ∧ nbS W c s / W = c / W + (if s = 0 then -1 else if s = 2 then 1 else 0) := by
 have p := cell_xy h h0 h1
 have e := dm' (W := W) c
 have key : ∀ x y : Int, 0 ≤ x → x < W → nbS W c s = y * W + x → nbS W c s % W = x ∧ nbS W c s / W = y := fun x y hx hx' hy => by
  have d := dm (W := W) (y := y) hx hx'
  rw [hy]; exact ⟨d.2, d.1⟩
 unfold OutE at ho
 rcases s4 hs with rfl | rfl | rfl | rfl
 ·exact key _ _ (by omega) (by omega) (by rw [Int.add_mul]; simp [nbS]; omega)
 ·exact key _ _ (by simp; omega) (by simp; omega) (by rw [Int.add_mul]; simp [nbS]; omega)
 ·exact key _ _ (by simp; omega) (by simp; omega) (by rw [Int.add_mul]; simp [nbS]; omega)
 ·exact key _ _ (by simp; omega) (by simp; omega) (by rw [Int.add_mul]; simp [nbS]; omega)
theorem nb_rng (h : Dim W H) {c : Int} (h0 : 0 ≤ c) (h1 : c < W * H) {s : Int} (hs : 0 ≤ s ∧ s ≤ 3) (ho : ¬ OutE W H c s) : 0 ≤ nbS W c s ∧ nbS W c s < W * H := by
 have p := cell_xy h h0 h1
 have e := nb_xy h h0 h1 hs ho
 unfold OutE at ho
 rw [← dm' (W := W) (nbS W c s), e.1, e.2]
 rcases s4 hs with rfl | rfl | rfl | rfl <;> exact xy_cell h (by simp; omega) (by simp; omega)
theorem sec_eq (h : Dim W H) {a b : Int} (a0 : 0 ≤ a) (a1 : a < W * H) (b0 : 0 ≤ b) (b1 : b < W * H) : sec W a = sec W b ↔ a % W / 16 = b % W / 16 ∧ a / W / 16 = b / W / 16 := by
 have ha := sec_at h a0 a1
 have hb := sec_at h b0 b1
 constructor
 ·intro e
  rw [e] at ha
  omega
 ·rintro ⟨e1, e2⟩
  unfold sec
  rw [e1, e2]
def OverS (W H c s : Int) : Prop := ¬ OutE W H c s ∧ sec W (nbS W c s) ≠ sec W c
instance (W H c s : Int) : Decidable (OverS W H c s) := inferInstanceAs (Decidable (_ ∧ _))
theorem over_xy (h : Dim W H) {c : Int} (h0 : 0 ≤ c) (h1 : c < W * H) {s : Int} (hs : 0 ≤ s ∧ s ≤ 3) :
  OverS W H c s ↔ (s = 0 ∧ c / W % 16 = 0 ∧ c / W ≠ 0 ∨ s = 1 ∧ c % W % 16 = 15 ∧ c % W ≠ W - 1 ∨ s = 2 ∧ c / W % 16 = 15 ∧ c / W ≠ H - 1 ∨ s = 3 ∧ c % W % 16 = 0 ∧ c % W ≠ 0) := by
 have p := cell_xy h h0 h1
 unfold OverS
 by_cases ho : OutE W H c s
 ·have ho' := ho
  unfold OutE at ho'
  constructor
  ·intro q; exact absurd ho q.1
  ·intro q; rcases s4 hs with rfl | rfl | rfl | rfl <;> omega
 ·have n := nb_rng h h0 h1 hs ho
  have e := nb_xy h h0 h1 hs ho
  rw [Ne, sec_eq h n.1 n.2 h0 h1, e.1, e.2]
  unfold OutE at ho ⊢
  rcases s4 hs with rfl | rfl | rfl | rfl <;> simp <;> omega
def alongS (W H s l d : Int) : Prop := d = 0 ∧ l / tw W s = 0 ∨ d = 1 ∧ l % tw W s = tw W s - 1 ∨ d = 2 ∧ l / tw W s = th W H s - 1 ∨ d = 3 ∧ l % tw W s = 0
instance (W H s l d : Int) : Decidable (alongS W H s l d) := inferInstanceAs (Decidable (_ ∨ _))
def hasS (W H s d : Int) : Prop := d = 0 ∧ 0 < sy W s ∨ d = 1 ∧ sx W s + tw W s < W ∨ d = 2 ∧ sy W s + th W H s < H ∨ d = 3 ∧ 0 < sx W s
instance (W H s d : Int) : Decidable (hasS W H s d) := inferInstanceAs (Decidable (_ ∨ _))
theorem over_glo (h : Dim W H) {s l : Int} (h0 : 0 ≤ s) (h1 : s < cnt W H) (l0 : 0 ≤ l) (l1 : l < tw W s * th W H s) {d : Int} (hd : 0 ≤ d ∧ d ≤ 3) : OverS W H (glo W s l) d ↔ alongS W H s l d ∧ hasS W H s d := by
 have b := sec_box h h0 h1; have p := loc_xy h h0 h1 l0 l1; have e := glo_xy h h0 h1 l0 l1
 have g := glo_rng h h0 h1 l0 l1
 rw [over_xy h g.1 g.2 hd, e.1, e.2]
 have hx : sx W s % 16 = 0 := by unfold sx; omega
 have hy : sy W s % 16 = 0 := by unfold sy; omega
 have ht : tw W s = 16 ∧ 16 ≤ W - sx W s ∨ tw W s = W - sx W s ∧ W - sx W s < 16 := by unfold tw; split <;> omega
 have hh : th W H s = 16 ∧ 16 ≤ H - sy W s ∨ th W H s = H - sy W s ∧ H - sy W s < 16 := by unfold th; split <;> omega
 unfold alongS hasS
 rcases s4 hd with rfl | rfl | rfl | rfl <;> simp <;> omega
def edgeS (W H c : Int) : Prop := OverS W H c 0 ∨ OverS W H c 1 ∨ OverS W H c 2 ∨ OverS W H c 3
instance (W H c : Int) : Decidable (edgeS W H c) := inferInstanceAs (Decidable (_ ∨ _))
theorem edge_of {c d : Int} (hd : 0 ≤ d ∧ d ≤ 3) (ho : OverS W H c d) : edgeS W H c := by
 unfold edgeS
 rcases s4 hd with rfl | rfl | rfl | rfl <;> simp [ho]
theorem edge_iff {c : Int} : edgeS W H c ↔ ∃ d, (0 ≤ d ∧ d ≤ 3) ∧ OverS W H c d := by
 constructor
 ·rintro (h | h | h | h)
  ·exact ⟨0, by omega, h⟩
  ·exact ⟨1, by omega, h⟩
  ·exact ⟨2, by omega, h⟩
  ·exact ⟨3, by omega, h⟩
 ·rintro ⟨d, hd, ho⟩; exact edge_of hd ho
def backS (s : Int) : Int := if s < 2 then s + 2 else s - 2
theorem back (h : Dim W H) {c : Int} (h0 : 0 ≤ c) (h1 : c < W * H) {s : Int} (hs : 0 ≤ s ∧ s ≤ 3) (ho : ¬ OutE W H c s) : (0 ≤ backS s ∧ backS s ≤ 3) ∧ ¬ OutE W H (nbS W c s) (backS s) ∧ nbS W (nbS W c s) (backS s) = c := by
 have p := cell_xy h h0 h1
 have e := nb_xy h h0 h1 hs ho
 have hb : 0 ≤ backS s ∧ backS s ≤ 3 := by unfold backS; split <;> omega
 unfold OutE at ho ⊢
 rw [e.1, e.2]
 rcases s4 hs with rfl | rfl | rfl | rfl <;> simp [backS, nbS] <;> omega
theorem over_back (h : Dim W H) {c : Int} (h0 : 0 ≤ c) (h1 : c < W * H) {s : Int} (hs : 0 ≤ s ∧ s ≤ 3) (ho : OverS W H c s) : OverS W H (nbS W c s) (backS s) := by
 have b := back h h0 h1 hs ho.1
 exact ⟨b.2.1, by rw [b.2.2]; exact fun e => ho.2 e.symm⟩
theorem glo_lt (h : Dim W H) {s l l' : Int} (h0 : 0 ≤ s) (h1 : s < cnt W H) (l0 : 0 ≤ l) (hl : l < l') (l1 : l' < tw W s * th W H s) : glo W s l < glo W s l' := by
 have b := sec_box h h0 h1
 have p := loc_xy h h0 h1 l0 (by omega)
 have p' := loc_xy h h0 h1 (by omega) l1
 have e := dm' (W := tw W s) l
 have e' := dm' (W := tw W s) l'
 unfold glo
 by_cases hy : l / tw W s = l' / tw W s
 ·rw [hy] at e ⊢; omega
 ·have hq : l / tw W s < l' / tw W s := by
   rcases Int.lt_or_le (l / tw W s) (l' / tw W s) with q | q
   ·exact q
   ·have := Int.mul_le_mul_of_nonneg_right (show l' / tw W s + 1 ≤ l / tw W s by omega) (show 0 ≤ tw W s by omega)
    rw [Int.add_mul, Int.one_mul] at this
    omega
  have := Int.mul_le_mul_of_nonneg_right (show sy W s + l / tw W s + 1 ≤ sy W s + l' / tw W s by omega) (show 0 ≤ W by omega)
  rw [Int.add_mul (sy W s + l / tw W s), Int.one_mul] at this
  omega
structure MapOk (W H : Int) (C : List Int) : Prop where
 dim : Dim W H
 len : (C.length : Int) = W * H
 cost : ∀ x ∈ C, 1 ≤ x ∧ x ≤ 255
def inS (W H s : Int) : Prop := 0 ≤ s ∧ s < cnt W H
instance (W H s : Int) : Decidable (inS W H s) := inferInstanceAs (Decidable (_ ∧ _))
def gloL (W H s : Int) : List Int := (List.range (tw W s * th W H s).toNat).map fun l : Nat => glo W s (l : Int)
def tileL (W H : Int) (C : List Int) (s : Int) : List Int := (gloL W H s).map fun c => rd C c
def nodesL (W H : Int) (C : List Int) (s : Int) : List Int := (gloL W H s).filter fun c => decide (edgeS W H c) && decide (rd C c ≠ 255)
variable {C : List Int} {s : Int}
theorem rd_cost (h : MapOk W H C) {c : Int} (h0 : 0 ≤ c) (h1 : c < W * H) : 1 ≤ rd C c ∧ rd C c ≤ 255 := by
 obtain ⟨n, rfl⟩ : ∃ n : Nat, c = n := ⟨c.toNat, by omega⟩
 have hn : n < C.length := by have := h.len; omega
 rw [rd_get C hn]
 exact h.cost _ (List.getElem_mem hn)
theorem box_wh (h : Dim W H) (hs : inS W H s) : 1 ≤ tw W s * th W H s ∧ tw W s * th W H s ≤ 256 := by
 have b := sec_box h hs.1 hs.2
 constructor
 ·have := Int.mul_le_mul b.2.2.2.2.1.1 b.2.2.2.2.2.1 (by omega) (by omega); omega
 ·have := Int.mul_le_mul b.2.2.2.2.1.2 b.2.2.2.2.2.2 (by omega) (by omega); omega
theorem gloL_len : (gloL W H s).length = (tw W s * th W H s).toNat := by simp [gloL]
theorem tileL_len : (tileL W H C s).length = (tw W s * th W H s).toNat := by simp [tileL, gloL]
theorem tileL_at {l : Nat} (hl : l < (tw W s * th W H s).toNat) : rd (tileL W H C s) l = rd C (glo W s l) := by
 rw [rd_get _ (by rw [tileL_len]; exact hl)]
 simp [tileL, gloL]
theorem mem_gloL (h : Dim W H) (hs : inS W H s) {c : Int} : c ∈ gloL W H s ↔ (0 ≤ c ∧ c < W * H) ∧ sec W c = s := by
 have b := box_wh h hs
 unfold gloL
 rw [List.mem_map]
 constructor
 ·rintro ⟨l, hl, rfl⟩
  rw [List.mem_range] at hl
  have l1 : (l : Int) < tw W s * th W H s := by omega
  exact ⟨glo_rng h hs.1 hs.2 (by omega) l1, sec_glo h hs.1 hs.2 (by omega) l1⟩
 ·rintro ⟨hc, rfl⟩
  have r := loc_rng h hc.1 hc.2
  refine ⟨(loc W c).toNat, List.mem_range.2 (by omega), ?_⟩
  rw [Int.toNat_of_nonneg r.1]
  exact glo_loc h hc.1 hc.2
theorem mem_nodes (h : Dim W H) (hs : inS W H s) {c : Int} : c ∈ nodesL W H C s ↔ (0 ≤ c ∧ c < W * H) ∧ sec W c = s ∧ edgeS W H c ∧ rd C c ≠ 255 := by
 unfold nodesL
 rw [List.mem_filter, mem_gloL h hs, Bool.and_eq_true, decide_eq_true_eq, decide_eq_true_eq, and_assoc]
theorem gloL_lt (h : Dim W H) (hs : inS W H s) : (gloL W H s).Pairwise (· < ·) := by
 have b := box_wh h hs
 unfold gloL
 rw [List.pairwise_map]
 refine List.Pairwise.imp_of_mem ?_ List.pairwise_lt_range
 intro a c ha hc hac
 rw [List.mem_range] at ha hc
 exact glo_lt h hs.1 hs.2 (by omega) (by omega) (by omega)
theorem nodes_lt (h : Dim W H) (hs : inS W H s) : (nodesL W H C s).Pairwise (· < ·) := (gloL_lt h hs).filter _
theorem nodes_len (h : Dim W H) (hs : inS W H s) : (nodesL W H C s).length ≤ 256 := by
 have b := box_wh h hs
 have := List.length_filter_le (fun c => decide (edgeS W H c) && decide (rd C c ≠ 255)) (gloL W H s)
 rw [gloL_len] at this
 unfold nodesL
 omega
theorem tile_bytes (h : MapOk W H C) (hs : inS W H s) : ∀ x ∈ tileL W H C s, 1 ≤ x ∧ x ≤ 255 := by
 intro x hx
 unfold tileL at hx
 rw [List.mem_map] at hx
 obtain ⟨c, hc, rfl⟩ := hx
 have := (mem_gloL h.dim hs).1 hc
 exact rd_cost h this.1.1 this.1.2
theorem tile_ok (h : MapOk W H C) (hs : inS W H s) : TileOk (tw W s) (th W H s) (tileL W H C s) := by
 have b := sec_box h.dim hs.1 hs.2
 have q := box_wh h.dim hs
 refine ⟨b.2.2.2.2.1.1, b.2.2.2.2.1.2, b.2.2.2.2.2.1, b.2.2.2.2.2.2, by rw [tileL_len]; omega, fun h0 => ?_⟩
 have := (tile_bytes h hs 0 h0).1
 omega
theorem tile_loc (h : Dim W H) {c : Int} (h0 : 0 ≤ c) (h1 : c < W * H) : rd (tileL W H C (sec W c)) (loc W c) = rd C c := by
 have r := loc_rng h h0 h1
 obtain ⟨l, hl⟩ : ∃ l : Nat, loc W c = l := ⟨(loc W c).toNat, by omega⟩
 rw [hl, tileL_at (by omega), ← hl, glo_loc h h0 h1]
theorem loc_lt (h : Dim W H) {a b : Int} (a0 : 0 ≤ a) (a1 : a < W * H) (b0 : 0 ≤ b) (b1 : b < W * H) (hs : sec W a = sec W b) (hl : a < b) : loc W a < loc W b := by
 rcases Int.lt_or_le (loc W a) (loc W b) with q | q
 ·exact q
 ·have ra := loc_rng h a0 a1
  have rb := loc_rng h b0 b1
  have sa := sec_rng h a0 a1
  have ga := glo_loc h a0 a1
  have gb := glo_loc h b0 b1
  rw [← hs] at gb rb
  rcases Int.lt_or_eq_of_le q with q | q
  ·have := glo_lt h sa.1 sa.2 rb.1 q ra.2
   omega
  ·rw [q] at gb; omega
theorem nodes_loc (h : Dim W H) (hs : inS W H s) : LocOk (tileL W H C s) ((nodesL W H C s).map (loc W)) := by
 constructor
 ·intro x hx
  rw [List.mem_map] at hx
  obtain ⟨c, hc, rfl⟩ := hx
  obtain ⟨q, e, _, ho⟩ := (mem_nodes h hs).1 hc
  have r := loc_rng h q.1 q.2
  have b := box_wh h hs
  rw [e] at r
  exact ⟨r.1, by rw [tileL_len]; omega, by rw [← e, tile_loc h q.1 q.2]; exact ho⟩
 ·rw [List.pairwise_map]
  refine List.Pairwise.imp_of_mem ?_ (nodes_lt h hs)
  intro a b ha hb hab
  have pa := (mem_nodes h hs).1 ha
  have pb := (mem_nodes h hs).1 hb
  exact loc_lt h pa.1.1 pa.1.2 pb.1.1 pb.1.2 (by rw [pa.2.1, pb.2.1]) hab
end Go.Proofs.YthgehdembghdaaaGreat.Geo
