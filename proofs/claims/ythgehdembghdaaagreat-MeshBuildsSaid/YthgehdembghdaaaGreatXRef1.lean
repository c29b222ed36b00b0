/-
 PLAIN: what the printed functions of herdsmanref1 tell of a map's sectors.
-/
import Derived.Test.YthgehdembghdaaaGreatXMade
namespace Go.Proofs.YthgehdembghdaaaGreat.P
open Go.RowKit Go.Proofs.YthgehdembghdaaaGreatW.PrintWords Go.Proofs.YthgehdembghdaaaGreatW.PrintLast Go.Proofs.YthgehdembghdaaaGreatW.PrintMore
open Go.Proofs.YthgehdembghdaaaGreat.Geo
set_option linter.unusedVariables false
set_option linter.unusedSimpArgs false
variable {W H : Int}
theorem rSize_no (h : Dim W H) {s : Int} (hs : ¬ inS W H s) : herdsmanref1_Size.f W H s = some (0, 0) := by
 have c := cnt_le h
 unfold inS at hs
 unfold herdsmanref1_Size.f
 rw [rCount h, Option.bind_some, w64 (n := cnt W H - 1) (by omega) (by omega), refIn_some, Option.bind_some, decide_eq_false (by omega), if_neg (by decide)]
theorem rSize (h : Dim W H) {s : Int} (hs : inS W H s) : herdsmanref1_Size.f W H s = some (tw W s, th W H s) := by
 have c := cnt_le h
 have a := acr_b h.w.1
 have a' := acr_le h.w.2
 have b := acr_b h.h.1
 have hw := h.w
 have hh := h.h
 have hp : 0 ≤ s % acr W ∧ s % acr W < acr W := ⟨Int.emod_nonneg _ (by omega), Int.emod_lt_of_pos _ (by omega)⟩
 have hq : 0 ≤ s / acr W ∧ s / acr W < acr H := ⟨Int.ediv_nonneg hs.1 (by omega), Geo.div_lt (by omega) hs.2⟩
 have b' := acr_le h.h.2
 have hs1 := hs.1
 have hs2 := hs.2
 unfold herdsmanref1_Size.f
 rw [rCount h, Option.bind_some, w64 (n := cnt W H - 1) (by omega) (by omega), refIn_some, Option.bind_some, decide_eq_true (by omega), if_pos rfl, rSectors h, Option.bind_some]
 dsimp only
 rw [if_neg (by omega), tmod_nn hs1, tdiv_nn hs1, w64 (n := s / acr W) (by omega) (by omega), w64 (n := 16 * (s % acr W)) (by omega) (by omega), w64 (n := 16 * (s / acr W)) (by omega) (by omega), w64 (n := W - 16 * (s % acr W)) (by omega) (by omega), w64 (n := H - 16 * (s / acr W)) (by omega) (by omega)]
 unfold mn tw th sx sy
 congr 2
 ·split <;> split <;> omega
 ·split <;> split <;> omega
theorem rIsCell (h : Dim W H) (c : Int) : herdsmanref1_IsCell.f W H c = some (decide (0 ≤ c ∧ c < W * H)) := by
 have m := wh_le h
 have hw := h.w
 have hh := h.h
 unfold herdsmanref1_IsCell.f
 rw [refMay_some, Option.bind_some, decide_eq_true (by omega), if_pos rfl, w64 (n := W * H) (by omega) (by omega), w64 (n := W * H - 1) (by omega) (by omega), refIn_some, Option.bind_some]
 exact congrArg some (decide_eq_decide.2 (by omega))
theorem rSector (h : Dim W H) (c : Int) : herdsmanref1_Sector.f W H c = some (if 0 ≤ c ∧ c < W * H then sec W c else -1) := by
 unfold herdsmanref1_Sector.f
 rw [rIsCell h, Option.bind_some]
 by_cases hc : 0 ≤ c ∧ c < W * H
 ·have p := cell_xy h hc.1 hc.2
  have r := sec_rng h hc.1 hc.2
  have q := cnt_le h
  have hw := h.w
  have hh := h.h
  have b := acr_b h.w.1
  have b' := acr_le h.w.2
  have bh := acr_b h.h.1
  have bh' := acr_le h.h.2
  rw [decide_eq_true hc, if_pos rfl, if_pos hc, rSectors h, Option.bind_some]
  dsimp only
  have e1 : 0 ≤ c / W / 16 * acr W ∧ c / W / 16 * acr W ≤ 4096 := by
   have := r
   unfold sec at this
   have h0 : 0 ≤ c / W / 16 * acr W := Int.mul_nonneg (by omega) (by omega)
   omega
  rw [if_neg (by omega), tdiv_nn hc.1, w64 (n := c / W) (by omega) (by omega), tdiv_nn p.2.1, w64 (n := c / W / 16) (by omega) (by omega), w64 (n := c / W / 16 * acr W) (by omega) (by omega), tmod_nn hc.1, tdiv_nn p.1.1, w64 (n := c % W / 16) (by omega) (by omega), w64 (by omega) (by omega)]
  rfl
 ·rw [decide_eq_false hc, if_neg (by decide), if_neg hc]
theorem rStep (h : Dim W H) {c : Int} (h0 : 0 ≤ c) (h1 : c < W * H) {s : Int} (hs : 0 ≤ s ∧ s ≤ 3) (k : Nat) (hk : 10 ≤ k) : herdsmanref1_Step.f k W H c s = some (if OutE W H c s then -1 else nbS W c s) := by
 have a := h.w
 have b := h.h
 have m := wh_le h
 have p := cell_xy h h0 h1
 obtain ⟨k, rfl⟩ : ∃ q, k = q + 5 := ⟨k - 5, by omega⟩
 have key : ∀ x y : Int, (-1 ≤ x ∧ x ≤ W) → (-1 ≤ y ∧ y ≤ H) → (OutE W H c s → ¬ ((0 ≤ x ∧ x < W) ∧ 0 ≤ y ∧ y < H)) → (¬ OutE W H c s → nbS W c s % W = x ∧ nbS W c s / W = y) → herdsmanref1_Step.j4 (k + 1) W H x y = some (if OutE W H c s then -1 else nbS W c s) := by
  intro x y hx hy ho hn
  rw [herdsmanref1_Step.j4, w64 (n := W - 1) (by omega) (by omega), refIn_some, Option.bind_some]
  by_cases q : OutE W H c s
  ·rw [if_pos q]
   have hno := ho q
   by_cases qx : 0 ≤ x ∧ x ≤ W - 1
   ·rw [decide_eq_true qx, if_pos rfl, w64 (n := H - 1) (by omega) (by omega), refIn_some, Option.bind_some, decide_eq_false (by omega), if_neg (by decide)]
   ·rw [decide_eq_false qx, if_neg (by decide)]
  ·rw [if_neg q]
   have r := nb_rng h h0 h1 hs q
   have z := cell_xy h r.1 r.2
   obtain ⟨rfl, rfl⟩ := hn q
   have e := dm' (W := W) (nbS W c s)
   rw [decide_eq_true (by omega), if_pos rfl, w64 (n := H - 1) (by omega) (by omega), refIn_some, Option.bind_some, decide_eq_true (by omega), if_pos rfl]
   have h2 : 0 ≤ nbS W c s / W * W := Int.mul_nonneg (by omega) (by omega)
   rw [w64 (n := nbS W c s / W * W) (by omega) (by omega), e, w64 (by omega) (by omega)]
 unfold herdsmanref1_Step.f
 rw [rIsCell h, Option.bind_some, decide_eq_true ⟨h0, h1⟩, if_pos rfl, refIn_some, Option.bind_some, decide_eq_true (show 0 ≤ s ∧ s ≤ 4 by omega), herdsmanref1_Step.j0, if_neg (by decide), if_neg (by omega), tmod_nn h0, tdiv_nn h0, w64 (n := c / W) (by omega) (by omega)]
 rcases s4 hs with rfl | rfl | rfl | rfl
 ·rw [if_pos rfl, herdsmanref1_Step.j1, if_neg (by decide), herdsmanref1_Step.j2, if_neg (by decide), herdsmanref1_Step.j3, if_neg (by decide), w64 (by omega) (by omega)]
  exact key _ _ (by omega) (by omega) (fun q => by unfold OutE at q; omega) (fun q => by have := nb_xy h h0 h1 hs q; simpa [Int.sub_eq_add_neg] using this)
 ·rw [if_neg (by decide), herdsmanref1_Step.j1, if_pos rfl, herdsmanref1_Step.j2, if_neg (by decide), herdsmanref1_Step.j3, if_neg (by decide), w64 (n := c % W + 1) (by omega) (by omega)]
  exact key _ _ (by omega) (by omega) (fun q => by unfold OutE at q; omega) (fun q => by have := nb_xy h h0 h1 hs q; simpa [Int.sub_eq_add_neg] using this)
 ·rw [if_neg (by decide), herdsmanref1_Step.j1, if_neg (by decide), herdsmanref1_Step.j2, if_pos rfl, herdsmanref1_Step.j3, if_neg (by decide), w64 (n := c / W + 1) (by omega) (by omega)]
  exact key _ _ (by omega) (by omega) (fun q => by unfold OutE at q; omega) (fun q => by have := nb_xy h h0 h1 hs q; simpa [Int.sub_eq_add_neg] using this)
 ·rw [if_neg (by decide), herdsmanref1_Step.j1, if_neg (by decide), herdsmanref1_Step.j2, if_neg (by decide), herdsmanref1_Step.j3, if_pos rfl, w64 (n := c % W - 1) (by omega) (by omega)]
  exact key _ _ (by omega) (by omega) (fun q => by unfold OutE at q; omega) (fun q => by have := nb_xy h h0 h1 hs q; simpa [Int.sub_eq_add_neg] using this)
theorem rLocal (h : Dim W H) {c : Int} (h0 : 0 ≤ c) (h1 : c < W * H) : herdsmanref1_Local.f W H c = some (loc W c) := by
 have p := cell_xy h h0 h1
 have r := sec_rng h h0 h1
 have e := sec_at h h0 h1
 have l := loc_at h h0 h1
 have lr := loc_rng h h0 h1
 have bx := box_wh h r
 have sb := sec_box h r.1 r.2
 have hw := h.w
 have hh := h.h
 have a := acr_b h.w.1
 have cn := cnt_le h
 unfold herdsmanref1_Local.f
 rw [rSector h, if_pos ⟨h0, h1⟩, Option.bind_some, if_neg (by omega), rSectors h, Option.bind_some]
 dsimp only
 rw [rSize h r, Option.bind_some]
 dsimp only
 unfold sx sy at e
 have hl : loc W c = c / W % 16 * tw W (sec W c) + c % W % 16 := rfl
 have h2 : 0 ≤ c / W % 16 * tw W (sec W c) := Int.mul_nonneg (by omega) (by omega)
 have h3 : c / W - 16 * (sec W c / acr W) = c / W % 16 := by omega
 have h4 : c % W - 16 * (sec W c % acr W) = c % W % 16 := by omega
 have hq : 0 ≤ sec W c / acr W ∧ sec W c / acr W ≤ 1024 := by omega
 have hm : 0 ≤ sec W c % acr W ∧ sec W c % acr W ≤ 1024 := by omega
 rw [if_neg (by omega), if_neg (by omega), tdiv_nn h0, tmod_nn h0, tdiv_nn r.1, tmod_nn r.1, w64 (n := c / W) (by omega) (by omega), w64 (n := sec W c / acr W) (by omega) (by omega), w64 (n := 16 * (sec W c / acr W)) (by omega) (by omega), w64 (n := c / W - 16 * (sec W c / acr W)) (by omega) (by omega), h3, w64 (n := c / W % 16 * tw W (sec W c)) (by omega) (by omega), w64 (n := c / W % 16 * tw W (sec W c) + c % W) (by omega) (by omega), w64 (n := 16 * (sec W c % acr W)) (by omega) (by omega), w64 (by omega) (by omega), hl]
 congr 1
 omega
theorem rGlobal (h : Dim W H) {s l : Int} (hs : inS W H s) (l0 : 0 ≤ l) (l1 : l < tw W s * th W H s) : herdsmanref1_Global.f W H s l = some (glo W s l) := by
 have bx := box_wh h hs
 have sb := sec_box h hs.1 hs.2
 have p := loc_xy h hs.1 hs.2 l0 l1
 have g := glo_rng h hs.1 hs.2 l0 l1
 have m := wh_le h
 have hw := h.w
 have hh := h.h
 have a := acr_b h.w.1
 have cn := cnt_le h
 have hs1 := hs.1
 have hs2 := hs.2
 have hg : glo W s l = (sy W s + l / tw W s) * W + (sx W s + l % tw W s) := rfl
 have hsy : 16 * (s / acr W) = sy W s := by unfold sy; omega
 have hsx : 16 * (s % acr W) = sx W s := by unfold sx; omega
 have h2 : 0 ≤ (sy W s + l / tw W s) * W := Int.mul_nonneg (by omega) (by omega)
 have hq : 0 ≤ s / acr W := Int.ediv_nonneg hs.1 (by omega)
 unfold herdsmanref1_Global.f
 rw [rSize h hs, Option.bind_some]
 dsimp only
 rw [w64 (n := tw W s * th W H s) (by omega) (by omega), w64 (n := tw W s * th W H s - 1) (by omega) (by omega), refIn_some, Option.bind_some, decide_eq_true (by omega), if_pos rfl, rSectors h, Option.bind_some]
 dsimp only
 rw [if_neg (by omega), if_neg (by omega), tdiv_nn hs1, tdiv_nn l0, tmod_nn hs1, tmod_nn l0, w64 (n := s / acr W) (by omega) (by omega), hsy, hsx, w64 (n := sy W s) (by omega) (by omega), w64 (n := l / tw W s) (by omega) (by omega), w64 (n := sy W s + l / tw W s) (by omega) (by omega), w64 (n := (sy W s + l / tw W s) * W) (by omega) (by omega), w64 (n := sx W s) (by omega) (by omega), w64 (n := (sy W s + l / tw W s) * W + sx W s) (by omega) (by omega), w64 (by omega) (by omega), hg]
 congr 1
 omega
variable {C : List Int}
theorem rTile_loop (h : MapOk W H C) {s : Int} (hs : inS W H s) : ∀ (d l k : Nat) (T : List Int), l + d = (tw W s * th W H s).toNat → T = (tileL W H C s).take l → d < k → herdsmanref1_TileOf.l0 k s (tw W s) (th W H s) (l : Int) W H C (tw W s) (th W H s) T = some (tw W s, th W H s, tileL W H C s) := by
 have bx := box_wh h.dim hs
 have tl := tileL_len (W := W) (H := H) (C := C) (s := s)
 intro d
 induction d with
 | zero =>
  intro l k T hl hT hk
  obtain ⟨k, rfl⟩ : ∃ q, k = q + 1 := ⟨k - 1, by omega⟩
  rw [herdsmanref1_TileOf.l0, w64 (n := tw W s * th W H s) (by omega) (by omega), if_neg (by omega), hT, List.take_of_length_le (by omega)]
 | succ d ih =>
  intro l k T hl hT hk
  obtain ⟨k, rfl⟩ : ∃ q, k = q + 1 := ⟨k - 1, by omega⟩
  have l1 : (l : Int) < tw W s * th W H s := by omega
  have g := glo_rng h.dim hs.1 hs.2 (l := (l : Int)) (by omega) l1
  have hlen := h.len
  have hTl : T.length = l := by rw [hT, List.length_take]; omega
  have hx := tileL_at (W := W) (H := H) (C := C) (s := s) (l := l) (by omega)
  rw [rd_get (tileL W H C s) (by omega)] at hx
  rw [herdsmanref1_TileOf.l0, w64 (n := tw W s * th W H s) (by omega) (by omega), if_pos l1, rGlobal h.dim hs (by omega) l1, Option.bind_some, if_pos g.1, if_pos (by omega), if_pos (by omega), w64 (n := (l : Int) + 1) (by omega) (by omega), show (l : Int) + 1 = ((l + 1 : Nat) : Int) by omega]
  refine ih (l + 1) k _ (by omega) ?_ (by omega)
  rw [List.take_succ_eq_append_getElem (by omega), ← hT, hx]
theorem rTile (h : MapOk W H C) {s : Int} (hs : inS W H s) (k : Nat) (hk : 300 ≤ k) : herdsmanref1_TileOf.f k W H C s = some (tw W s, th W H s, tileL W H C s) := by
 have bx := box_wh h.dim hs
 unfold herdsmanref1_TileOf.f
 rw [rSize h.dim hs, Option.bind_some]
 exact rTile_loop h hs (tw W s * th W H s).toNat 0 k [] (by omega) (by simp) (by omega)
theorem rInts_loop (l : List Int) : ∀ (d i k : Nat), i + d = l.length → d < k → l.length ≤ 1000000 → herdsmanref1_Ints.l0 k l l (i : Int) = some true := by
 intro d
 induction d with
 | zero =>
  intro i k hi hk hl
  obtain ⟨k, rfl⟩ : ∃ q, k = q + 1 := ⟨k - 1, by omega⟩
  rw [herdsmanref1_Ints.l0, if_neg (by omega)]
 | succ d ih =>
  intro i k hi hk hl
  obtain ⟨k, rfl⟩ : ∃ q, k = q + 1 := ⟨k - 1, by omega⟩
  rw [herdsmanref1_Ints.l0, if_pos (by omega), if_pos (by omega), if_pos (by omega), if_pos rfl, w64 (n := (i : Int) + 1) (by omega) (by omega), show (i : Int) + 1 = ((i + 1 : Nat) : Int) by omega]
  exact ih (i + 1) k (by omega) (by omega) hl
theorem rInts (l : List Int) (k : Nat) (hl : l.length ≤ 1000000) (hk : l.length < k) : herdsmanref1_Ints.f k l l = some true := by
 unfold herdsmanref1_Ints.f
 rw [if_pos rfl]
 exact rInts_loop l l.length 0 k (by omega) hk hl
end Go.Proofs.YthgehdembghdaaaGreat.P
