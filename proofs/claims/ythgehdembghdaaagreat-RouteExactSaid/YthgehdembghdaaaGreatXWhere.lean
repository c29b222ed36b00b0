/-
 PLAIN: what the printed functions of the packages where and border tell.
-/
import Derived.Test.YthgehdembghdaaaGreatXGeo
import Derived.Test.YthgehdembghdaaaGreatJ11
import Derived.Test.YthgehdembghdaaaGreatPx15
import Derived.Test.YthgehdembghdaaaGreatPx18
import Derived.Test.YthgehdembghdaaaGreatPx16
import Derived.Test.YthgehdembghdaaaGreatPx17
namespace Go.Proofs.YthgehdembghdaaaGreat.P
open Go.RowKit Go.Proofs.YthgehdembghdaaaGreatW.PrintWords Go.Proofs.YthgehdembghdaaaGreatW.PrintLast Go.Proofs.YthgehdembghdaaaGreatW.PrintMore
open Go.Proofs.YthgehdembghdaaaGreat.Geo
set_option linter.unusedVariables false
set_option linter.unusedSimpArgs false
variable {W H : Int}
theorem wMay (h : Dim W H) : where_May.f W H = some true := by
 obtain ⟨⟨a, b⟩, c, d⟩ := h
 unfold where_May.f
 rw [if_pos (by omega), if_pos (by omega), if_pos (by omega), decide_eq_true (by omega)]
theorem wSectors (h : Dim W H) : where_Sectors.f W H = some (acr W, acr H) := by
 have a := h.w
 have b := h.h
 unfold where_Sectors.f acr
 rw [wMay h, Option.bind_some, if_pos rfl, w64 (n := W + 16) (by omega) (by omega), w64 (n := H + 16) (by omega) (by omega), show W + 16 - 1 = W + 15 by omega, show H + 16 - 1 = H + 15 by omega, w64 (n := W + 15) (by omega) (by omega), w64 (n := H + 15) (by omega) (by omega), tdiv_nn (by omega), tdiv_nn (by omega), w64 (by omega) (by omega), w64 (by omega) (by omega)]
theorem wIs (h : Dim W H) (c : Int) : where_is.f W H c = some (decide (0 ≤ c ∧ c < W * H)) := by
 have m := wh_le h
 unfold where_is.f
 rw [wMay h, Option.bind_some, if_pos rfl, w64 (by omega) (by omega)]
 by_cases q : 0 ≤ c
 ·rw [if_pos (by omega)]; exact congrArg some (decide_eq_decide.2 (by omega))
 ·rw [if_neg (by omega), decide_eq_false (by omega)]
theorem wPlace (h : Dim W H) {c : Int} (h0 : 0 ≤ c) (h1 : c < W * H) : where_Place.f W H c = some (c % W, c / W) := by
 have a := h.w
 have b := h.h
 have p := cell_xy h h0 h1
 unfold where_Place.f
 rw [wIs h, Option.bind_some, decide_eq_true ⟨h0, h1⟩, if_pos rfl, if_neg (by omega), tmod_nn h0, tdiv_nn h0, w64 (by omega) (by omega)]
theorem wPlace_no (h : Dim W H) {c : Int} (hc : ¬ (0 ≤ c ∧ c < W * H)) : where_Place.f W H c = some (-1, -1) := by
 unfold where_Place.f
 rw [wIs h, Option.bind_some, decide_eq_false hc, if_neg (by decide)]
theorem wSector (h : Dim W H) (c : Int) : where_Sector.f W H c = some (if 0 ≤ c ∧ c < W * H then sec W c else -1) := by
 unfold where_Sector.f
 by_cases hc : 0 ≤ c ∧ c < W * H
 ·have a := h.w
  have b := h.h
  have p := cell_xy h hc.1 hc.2
  have q := acr_b a.1
  have q2 := acr_le a.2
  have r := sec_rng h hc.1 hc.2
  have r2 := cnt_le h
  have e : sec W c = c / W / 16 * acr W + c % W / 16 := rfl
  rw [wPlace h hc.1 hc.2, Option.bind_some, if_neg (by omega), wSectors h, Option.bind_some, if_pos hc]
  dsimp only
  rw [tdiv_nn (by omega), tdiv_nn (by omega), w64 (n := c / W / 16) (by omega) (by omega), w64 (n := c % W / 16) (by omega) (by omega), w64 (n := c / W / 16 * acr W) (by omega) (by omega), w64 (by omega) (by omega), e]
 ·rw [wPlace_no h hc, Option.bind_some, if_pos (by decide), if_neg hc]
theorem cnt_eq : cnt W H = acr W * acr H := rfl
theorem wCorner (h : Dim W H) {s : Int} (hs : inS W H s) : where_corner.f W H s = some (sx W s, sy W s, true) := by
 have a := h.w
 have b := sec_box h hs.1 hs.2
 have c := cnt_le h
 have d := acr_b a.1
 have d2 := acr_b h.h.1
 have e := h.h
 obtain ⟨s0, s1⟩ := hs
 have hx : sx W s = s % acr W * 16 := rfl
 have hy : sy W s = s / acr W * 16 := rfl
 unfold where_corner.f
 rw [wSectors h, Option.bind_some]
 dsimp only
 rw [← cnt_eq, w64 (n := cnt W H) (by omega) (by omega), if_neg (by omega), if_neg (by omega), if_neg (by omega), tmod_nn s0, tdiv_nn s0, w64 (n := s % acr W * 16) (by omega) (by omega), w64 (n := s / acr W) (by omega) (by omega), w64 (by omega) (by omega), hx, hy]
theorem wSize (h : Dim W H) {s : Int} (hs : inS W H s) : where_Size.f W H s = some (tw W s, th W H s) := by
 have a := h.w
 have e := h.h
 have b := sec_box h hs.1 hs.2
 unfold where_Size.f
 rw [wCorner h hs, Option.bind_some, if_pos rfl]
 dsimp only
 rw [w64 (n := W - sx W s) (by omega) (by omega), w64 (n := H - sy W s) (by omega) (by omega)]
 rfl
theorem wCell (h : Dim W H) {x y : Int} (hx : 0 ≤ x ∧ x < W) (hy : 0 ≤ y ∧ y < H) : where_Cell.f W H x y = some (y * W + x) := by
 have m := wh_le h
 have r := xy_cell h hx hy
 have r2 := xy_cell h (x := 0) (by omega) hy
 unfold where_Cell.f
 rw [wMay h, Option.bind_some, if_pos rfl, if_neg (by omega), if_neg (by omega), if_neg (by omega), if_neg (by omega), w64 (n := y * W) (by omega) (by omega), w64 (by omega) (by omega)]
theorem wCell_no (h : Dim W H) {x y : Int} (hq : ¬ ((0 ≤ x ∧ x < W) ∧ 0 ≤ y ∧ y < H)) : where_Cell.f W H x y = some (-1) := by
 unfold where_Cell.f
 rw [wMay h, Option.bind_some, if_pos rfl]
 by_cases q1 : x < 0
 ·rw [if_pos q1]
 ·rw [if_neg q1]
  by_cases q2 : x ≥ W
  ·rw [if_pos q2]
  ·rw [if_neg q2]
   by_cases q3 : y < 0
   ·rw [if_pos q3]
   ·rw [if_neg q3, if_pos (by omega)]
theorem wGlobal (h : Dim W H) {s l : Int} (hs : inS W H s) (l0 : 0 ≤ l) (l1 : l < tw W s * th W H s) : where_Global.f W H s l = some (glo W s l) := by
 have a := h.w
 have e := h.h
 have b := sec_box h hs.1 hs.2
 have c := box_wh h hs
 have p := loc_xy h hs.1 hs.2 l0 l1
 unfold where_Global.f
 rw [wCorner h hs, Option.bind_some, wSize h hs, Option.bind_some, if_pos rfl]
 dsimp only
 rw [if_neg (by omega), w64 (n := tw W s * th W H s) (by omega) (by omega), if_neg (by omega), if_neg (by omega), tmod_nn l0, tdiv_nn l0, w64 (n := l / tw W s) (by omega) (by omega), w64 (n := sx W s + l % tw W s) (by omega) (by omega), w64 (n := sy W s + l / tw W s) (by omega) (by omega), wCell h (by omega) (by omega), Option.bind_some]
 rfl
theorem wLocal (h : Dim W H) {c : Int} (h0 : 0 ≤ c) (h1 : c < W * H) : where_Local.f W H c = some (loc W c) := by
 have a := h.w
 have b := h.h
 have p := cell_xy h h0 h1
 have s := sec_rng h h0 h1
 have hb := sec_box h s.1 s.2
 have l := loc_rng h h0 h1
 have l2 := loc_at h h0 h1
 have c2 := box_wh h (s := sec W c) s
 have e : loc W c = c / W % 16 * tw W (sec W c) + c % W % 16 := rfl
 unfold where_Local.f
 rw [wPlace h h0 h1, Option.bind_some, if_neg (by omega), wSector h, if_pos ⟨h0, h1⟩, Option.bind_some, wSize h s, Option.bind_some]
 dsimp only
 rw [tmod_nn (by omega), tmod_nn (by omega), w64 (n := c / W % 16 * tw W (sec W c)) (by omega) (by omega), w64 (by omega) (by omega), e]
theorem wStep (h : Dim W H) {c : Int} (h0 : 0 ≤ c) (h1 : c < W * H) {s : Int} (hs : 0 ≤ s ∧ s ≤ 3) : where_Step.f W H c s = some (if OutE W H c s then -1 else nbS W c s) := by
 have a := h.w
 have b := h.h
 have p := cell_xy h h0 h1
 have key : ∀ x y : Int, (OutE W H c s → ¬ ((0 ≤ x ∧ x < W) ∧ 0 ≤ y ∧ y < H)) → (¬ OutE W H c s → nbS W c s % W = x ∧ nbS W c s / W = y) → (where_Cell.f W H x y).bind (fun t => some t) = some (if OutE W H c s then -1 else nbS W c s) := by
  intro x y ho hn
  by_cases q : OutE W H c s
  ·rw [wCell_no h (ho q), Option.bind_some, if_pos q]
  ·have r := nb_rng h h0 h1 hs q
   have z := cell_xy h r.1 r.2
   obtain ⟨rfl, rfl⟩ := hn q
   rw [wCell h z.1 z.2, Option.bind_some, if_neg q, dm']
 unfold where_Step.f
 rw [wPlace h h0 h1, Option.bind_some, if_neg (by omega)]
 dsimp only
 rcases s4 hs with rfl | rfl | rfl | rfl
 ·rw [if_pos rfl, w64 (by omega) (by omega)]
  exact key _ _ (fun q => by unfold OutE at q; omega) (fun q => by have := nb_xy h h0 h1 hs q; simpa using this)
 ·rw [if_neg (by decide), if_neg (by decide), if_neg (by decide), if_pos rfl, w64 (by omega) (by omega)]
  exact key _ _ (fun q => by unfold OutE at q; omega) (fun q => by have := nb_xy h h0 h1 hs q; simpa using this)
 ·rw [if_neg (by decide), if_pos rfl, w64 (by omega) (by omega)]
  exact key _ _ (fun q => by unfold OutE at q; omega) (fun q => by have := nb_xy h h0 h1 hs q; simpa using this)
 ·rw [if_neg (by decide), if_neg (by decide), if_pos rfl, w64 (by omega) (by omega)]
  exact key _ _ (fun q => by unfold OutE at q; omega) (fun q => by have := nb_xy h h0 h1 hs q; simpa using this)
theorem wOver (h : Dim W H) {c : Int} (h0 : 0 ≤ c) (h1 : c < W * H) {s : Int} (hs : 0 ≤ s ∧ s ≤ 3) : border_over.f W H c s = some (if OverS W H c s then nbS W c s else -1) := by
 unfold border_over.f
 rw [wStep h h0 h1 hs, Option.bind_some]
 by_cases q : OutE W H c s
 ·rw [if_pos q, if_pos (by decide), if_neg (fun e => e.1 q)]
 ·have r := nb_rng h h0 h1 hs q
  rw [if_neg q, if_neg (by omega), wSector h, if_pos r, Option.bind_some, wSector h, if_pos ⟨h0, h1⟩, Option.bind_some]
  by_cases e : sec W (nbS W c s) = sec W c
  ·rw [if_pos e, if_neg (fun z => z.2 e)]
  ·rw [if_neg e, if_pos ⟨q, e⟩]
def alongL (t u d : Int) : List Int :=
 if d = 2 then (List.range t.toNat).map (fun i : Nat => (u - 1) * t + (i : Int)) else if d = 0 then (List.range t.toNat).map (fun i : Nat => 0 + (i : Int)) else if d = 1 then (List.range u.toNat).map (fun i : Nat => t - 1 + (i : Int) * t) else (List.range u.toNat).map (fun i : Nat => 0 + (i : Int) * t)
theorem along_l0 {t f : Int} (ht : 0 ≤ t ∧ t ≤ 16) (hf : 0 ≤ f ∧ f ≤ 1000) : ∀ (d i k : Nat), (i : Int) + d = t → d < k → border_along.l0 k ((List.range i).map fun j : Nat => f + (j : Int)) f t (i : Int) = some ((List.range t.toNat).map fun j : Nat => f + (j : Int)) := by
 intro d
 induction d with
 | zero =>
  intro i k hi hk
  obtain ⟨k, rfl⟩ : ∃ m, k = m + 1 := ⟨k - 1, by omega⟩
  rw [border_along.l0, if_neg (by omega), show t.toNat = i by omega]
 | succ d ih =>
  intro i k hi hk
  obtain ⟨k, rfl⟩ : ∃ m, k = m + 1 := ⟨k - 1, by omega⟩
  have := ih (i + 1) k (by omega) (by omega)
  rw [List.range_succ, List.map_append] at this
  rw [border_along.l0, if_pos (by omega), if_pos (by simp; omega), w64 (n := f + (i : Int)) (by omega) (by omega), w64 (n := (i : Int) + 1) (by omega) (by omega)]
  exact this
theorem along_l1 {t u f : Int} (ht : 0 ≤ t ∧ t ≤ 16) (hu : 0 ≤ u ∧ u ≤ 16) (hf : 0 ≤ f ∧ f ≤ 1000) : ∀ (d i k : Nat), (i : Int) + d = u → d < k → border_along.l1 k t ((List.range i).map fun j : Nat => f + (j : Int) * t) f u (i : Int) = some ((List.range u.toNat).map fun j : Nat => f + (j : Int) * t) := by
 intro d
 induction d with
 | zero =>
  intro i k hi hk
  obtain ⟨k, rfl⟩ : ∃ m, k = m + 1 := ⟨k - 1, by omega⟩
  rw [border_along.l1, if_neg (by omega), show u.toNat = i by omega]
 | succ d ih =>
  intro i k hi hk
  obtain ⟨k, rfl⟩ : ∃ m, k = m + 1 := ⟨k - 1, by omega⟩
  have := ih (i + 1) k (by omega) (by omega)
  have b0 : 0 ≤ (i : Int) * t := Int.mul_nonneg (by omega) ht.1
  have b1 : (i : Int) * t ≤ 16 * 16 := Int.mul_le_mul (by omega) ht.2 ht.1 (by omega)
  rw [List.range_succ, List.map_append] at this
  rw [border_along.l1, if_pos (by omega), if_pos (by simp; omega), w64 (n := (i : Int) * t) (by omega) (by omega), w64 (n := f + (i : Int) * t) (by omega) (by omega), w64 (n := (i : Int) + 1) (by omega) (by omega)]
  exact this
theorem wAlong {t u d : Int} (ht : 0 ≤ t ∧ t ≤ 16) (hu : 0 ≤ u ∧ u ≤ 16) (hd : 0 ≤ d ∧ d ≤ 3) (hz : t = 0 → u = 0) (hz' : u = 0 → t = 0) (k : Nat) (hk : 20 ≤ k) : border_along.f k t u d = some (alongL t u d) := by
 obtain ⟨k, rfl⟩ : ∃ m, k = m + 1 := ⟨k - 1, by omega⟩
 have b1 : u ≠ 0 → 0 ≤ (u - 1) * t := fun e => Int.mul_nonneg (by omega) (by omega)
 have b2 : u ≠ 0 → (u - 1) * t ≤ 16 * 16 := fun e => Int.mul_le_mul (by omega) (by omega) (by omega) (by omega)
 unfold border_along.f alongL
 rcases s4 hd with rfl | rfl | rfl | rfl
 ·rw [if_neg (by decide), if_pos rfl, if_neg (by decide), if_pos rfl, border_along.j0]
  exact along_l0 ht (by omega) t.toNat 0 k (by omega) (by omega)
 ·rw [if_neg (by decide), if_neg (by decide), if_pos rfl, if_neg (by decide), if_neg (by decide), if_pos rfl, border_along.j2, w64 (by omega) (by omega)]
  by_cases e : u = 0
  ·subst e
   obtain ⟨k, rfl⟩ : ∃ m, k = m + 1 := ⟨k - 1, by omega⟩
   rw [border_along.l1, if_neg (by omega)]
   rfl
  ·exact along_l1 ht hu (by omega) u.toNat 0 k (by omega) (by omega)
 ·rw [if_pos rfl, if_pos rfl, border_along.j0, w64 (n := u - 1) (by omega) (by omega)]
  by_cases e : u = 0
  ·have e2 := hz' e
   subst e e2
   obtain ⟨k, rfl⟩ : ∃ m, k = m + 1 := ⟨k - 1, by omega⟩
   rw [border_along.l0, if_neg (by omega)]
   rfl
  ·have q1 := b1 e
   have q2 := b2 e
   rw [w64 (n := (u - 1) * t) (by omega) (by omega)]
   exact along_l0 ht (by omega) t.toNat 0 k (by omega) (by omega)
 ·rw [if_neg (by decide), if_neg (by decide), if_neg (by decide), if_pos rfl, if_neg (by decide), if_neg (by decide), if_neg (by decide), border_along.j2]
  exact along_l1 ht hu (by omega) u.toNat 0 k (by omega) (by omega)
theorem along_len {t u d : Int} (hd : 0 ≤ d ∧ d ≤ 3) : (alongL t u d).length = if d = 0 ∨ d = 2 then t.toNat else u.toNat := by
 unfold alongL
 rcases s4 hd with rfl | rfl | rfl | rfl <;> simp
theorem mem_along (h : Dim W H) {s : Int} (hs : inS W H s) {d : Int} (hd : 0 ≤ d ∧ d ≤ 3) {l : Int} : l ∈ alongL (tw W s) (th W H s) d ↔ (0 ≤ l ∧ l < tw W s * th W H s) ∧ alongS W H s l d := by
 have b := sec_box h hs.1 hs.2
 have q := box_wh h hs
 have hmul : ∀ a : Int, 0 ≤ a → 0 ≤ a * tw W s := fun a ha => Int.mul_nonneg ha (by omega)
 unfold alongL alongS
 constructor
 ·rcases s4 hd with rfl | rfl | rfl | rfl <;> simp only [reduceIte, Int.reduceEq] <;> rw [List.mem_map] <;> rintro ⟨i, hi, rfl⟩ <;> rw [List.mem_range] at hi
  ·have e := mul_div (t := tw W s) (x := (i : Int)) (y := 0) (by omega) (by omega)
   have r := row_lt (A := tw W s) (B := th W H s) (q := 0) (p := (i : Int)) (by omega) (by omega) (by omega)
   rw [Int.zero_mul] at e r
   exact ⟨⟨by omega, by omega⟩, .inl ⟨trivial, e.1⟩⟩
  ·have e := mul_div (t := tw W s) (x := tw W s - 1) (y := (i : Int)) (by omega) (by omega)
   have r := row_lt (A := tw W s) (B := th W H s) (q := (i : Int)) (p := tw W s - 1) (by omega) (by omega) (by omega)
   rw [Int.add_comm (tw W s - 1)]
   have := hmul i (by omega)
   exact ⟨⟨by omega, by omega⟩, .inr (.inl ⟨trivial, e.2⟩)⟩
  ·have e := mul_div (t := tw W s) (x := (i : Int)) (y := th W H s - 1) (by omega) (by omega)
   have r := row_lt (A := tw W s) (B := th W H s) (q := th W H s - 1) (p := (i : Int)) (by omega) (by omega) (by omega)
   have := hmul (th W H s - 1) (by omega)
   exact ⟨⟨by omega, by omega⟩, .inr (.inr (.inl ⟨trivial, e.1⟩))⟩
  ·have e := mul_div (t := tw W s) (x := 0) (y := (i : Int)) (by omega) (by omega)
   have r := row_lt (A := tw W s) (B := th W H s) (q := (i : Int)) (p := 0) (by omega) (by omega) (by omega)
   rw [Int.add_comm 0]
   have := hmul i (by omega)
   exact ⟨⟨by omega, by omega⟩, .inr (.inr (.inr ⟨trivial, e.2⟩))⟩
 ·rintro ⟨⟨l0, l1⟩, hl⟩
  have e := dm' (W := tw W s) l
  have p := loc_xy h hs.1 hs.2 l0 l1
  rcases s4 hd with rfl | rfl | rfl | rfl <;> simp only [reduceIte, Int.reduceEq] <;> rw [List.mem_map] <;> simp at hl
  ·exact ⟨(l % tw W s).toNat, List.mem_range.2 (by omega), by rw [hl] at e; omega⟩
  ·exact ⟨(l / tw W s).toNat, List.mem_range.2 (by omega), by rw [Int.toNat_of_nonneg p.2.1]; omega⟩
  ·exact ⟨(l % tw W s).toNat, List.mem_range.2 (by omega), by rw [hl] at e; omega⟩
  ·exact ⟨(l / tw W s).toNat, List.mem_range.2 (by omega), by rw [Int.toNat_of_nonneg p.2.1]; omega⟩
end Go.Proofs.YthgehdembghdaaaGreat.P
