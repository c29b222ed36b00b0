/-
 PLAIN: what the printed functions of herdsmanref11 tell: nodes, distances.
-/
import Derived.Test.YthgehdembghdaaaGreatXRef1
import Derived.Test.YthgehdembghdaaaGreatXInto1
import Derived.Test.YthgehdembghdaaaGreatPxB
import Derived.Test.YthgehdembghdaaaGreatPx36
import Derived.Test.YthgehdembghdaaaGreatXRefSpW
namespace Go.Proofs.YthgehdembghdaaaGreat.P
open Go.RowKit Go.Proofs.YthgehdembghdaaaGreatW.PrintWords Go.Proofs.YthgehdembghdaaaGreatW.PrintLast Go.Proofs.YthgehdembghdaaaGreatW.PrintMore
open Go.Proofs.YthgehdembghdaaaGreat.Geo
set_option linter.unusedVariables false
set_option linter.unusedSimpArgs false
variable {W H : Int} {C : List Int}
theorem rOver (h : Dim W H) {c : Int} (h0 : 0 ≤ c) (h1 : c < W * H) {d : Int} (hd : 0 ≤ d ∧ d ≤ 3) (k : Nat) (hk : 10 ≤ k) : herdsmanref11_Over.f k W H c d = some (if OverS W H c d then nbS W c d else -1) := by
 unfold herdsmanref11_Over.f
 rw [refIn_some, Option.bind_some, decide_eq_true hd, if_pos rfl, rStep h h0 h1 hd k hk, Option.bind_some]
 by_cases q : OutE W H c d
 ·rw [if_pos q, if_pos (by omega), if_neg (fun r => r.1 q)]
 ·have r := nb_rng h h0 h1 hd q
  rw [if_neg q, if_neg (by omega), rSector h, if_pos r, Option.bind_some, rSector h, if_pos ⟨h0, h1⟩, Option.bind_some]
  by_cases e : sec W (nbS W c d) = sec W c
  ·rw [if_pos e, if_neg (fun r => r.2 e)]
  ·rw [if_neg e, if_pos ⟨q, e⟩]
theorem rOpen (h : MapOk W H C) (c : Int) : herdsmanref11_open.f W H C c = some (decide ((0 ≤ c ∧ c < W * H) ∧ rd C c ≠ 255)) := by
 have hl := h.len
 unfold herdsmanref11_open.f
 by_cases q0 : c ≥ 0
 ·by_cases q1 : c < (C.length : Int)
  ·rw [if_pos q0, if_pos q1, if_pos q0]
   by_cases e : rd C c = 255
   ·rw [e, decide_eq_false (fun r => r.2 rfl)]; rfl
   ·have : (rd C c != 255) = true := by rw [bne_iff_ne]; exact e
    rw [this, decide_eq_true ⟨⟨q0, by omega⟩, e⟩]
  ·rw [if_pos q0, if_neg q1, decide_eq_false (by omega)]
 ·rw [if_neg q0, decide_eq_false (by omega)]
theorem rIs_loop (h : MapOk W H C) {c : Int} (h0 : 0 ≤ c) (h1 : c < W * H) : ∀ (e d k : Nat), d + e = 4 → e + 20 < k → (∀ i : Nat, i < d → ¬ OverS W H c (i : Int)) → herdsmanref11_IsNode.l0 k c (d : Int) W H C = some (decide (edgeS W H c)) := by
 intro e
 induction e with
 | zero =>
  intro d k hd hk hn
  obtain ⟨k, rfl⟩ : ∃ q, k = q + 1 := ⟨k - 1, by omega⟩
  rw [herdsmanref11_IsNode.l0, if_neg (by omega), decide_eq_false]
  rw [edge_iff]
  rintro ⟨i, hi, ho⟩
  obtain ⟨j, rfl⟩ : ∃ j : Nat, i = j := ⟨i.toNat, by omega⟩
  exact hn j (by omega) ho
 | succ e ih =>
  intro d k hd hk hn
  obtain ⟨k, rfl⟩ : ∃ q, k = q + 1 := ⟨k - 1, by omega⟩
  rw [herdsmanref11_IsNode.l0, if_pos (by omega), rOver h.dim h0 h1 (by omega) k (by omega), Option.bind_some]
  by_cases q : OverS W H c (d : Int)
  ·have r := nb_rng h.dim h0 h1 (s := (d : Int)) (by omega) q.1
   rw [if_pos q, if_pos r.1, decide_eq_true (edge_of (by omega) q)]
  ·rw [if_neg q, if_neg (by omega), w64 (n := (d : Int) + 1) (by omega) (by omega), show (d : Int) + 1 = ((d + 1 : Nat) : Int) by omega]
   refine ih (d + 1) k (by omega) (by omega) (fun i hi => ?_)
   rcases Nat.lt_or_ge i d with c1 | c1
   ·exact hn i c1
   ·obtain rfl : i = d := by omega
    exact q
theorem rIsNode (h : MapOk W H C) (c : Int) (k : Nat) (hk : 30 ≤ k) : herdsmanref11_IsNode.f k W H C c = some (decide ((0 ≤ c ∧ c < W * H) ∧ edgeS W H c ∧ rd C c ≠ 255)) := by
 unfold herdsmanref11_IsNode.f
 rw [rOpen h, Option.bind_some]
 by_cases q : (0 ≤ c ∧ c < W * H) ∧ rd C c ≠ 255
 ·have hl := rIs_loop h q.1.1 q.1.2 4 0 k (by omega) (by omega) (fun i hi => absurd hi (by omega))
  rw [show ((0 : Nat) : Int) = 0 from rfl] at hl
  rw [decide_eq_true q, if_pos rfl, hl]
  exact congrArg some (decide_eq_decide.2 ⟨fun r => ⟨q.1, r, q.2⟩, fun r => r.2.1⟩)
 ·rw [decide_eq_false q, if_neg (by decide), decide_eq_false (fun r => q ⟨r.1, r.2.2⟩)]
def cellsS (W H s : Int) : List Int := (gloL W H s).filter fun c => decide (edgeS W H c)
theorem rCells_side (h : Dim W H) {s : Int} {c : Int} (h0 : 0 ≤ c) (h1 : c < W * H) (acc : List Int) (t u : Int) (l : Int) : ∀ (e d k : Nat) (b : Bool), d + e = 4 → e + 20 < k → (b = true ↔ ∃ i : Nat, i < d ∧ OverS W H c (i : Int)) → ∀ R, (∀ k', k' + e + 1 = k → (if (decide (edgeS W H c)) = true then (if acc.length < 17592186044416 then herdsmanref11_Cells.l0 k' W H s (acc ++ [c]) t u (wrap64 (l + 1)) else none) else herdsmanref11_Cells.l0 k' W H s acc t u (wrap64 (l + 1))) = some R) → herdsmanref11_Cells.l1 k W H s acc t u l c b (d : Int) = some R := by
 intro e
 induction e with
 | zero =>
  intro d k b hd hk hb R hR
  obtain ⟨k, rfl⟩ : ∃ q, k = q + 1 := ⟨k - 1, by omega⟩
  have hbe : b = decide (edgeS W H c) := by
   have : b = true ↔ edgeS W H c := by
    rw [hb, edge_iff]
    constructor
    ·rintro ⟨i, hi, ho⟩; exact ⟨i, by omega, ho⟩
    ·rintro ⟨i, hi, ho⟩
     obtain ⟨j, rfl⟩ : ∃ j : Nat, i = j := ⟨i.toNat, by omega⟩
     exact ⟨j, by omega, ho⟩
   cases b with
   | true => exact (decide_eq_true (this.1 rfl)).symm
   | false => exact (decide_eq_false (fun q => by have := this.2 q; cases this)).symm
  rw [herdsmanref11_Cells.l1, if_neg (by omega), hbe]
  exact hR k (by omega)
 | succ e ih =>
  intro d k b hd hk hb R hR
  obtain ⟨k, rfl⟩ : ∃ q, k = q + 1 := ⟨k - 1, by omega⟩
  rw [herdsmanref11_Cells.l1, if_pos (by omega)]
  cases b with
  | true =>
   rw [if_pos rfl, w64 (n := (d : Int) + 1) (by omega) (by omega), show (d : Int) + 1 = ((d + 1 : Nat) : Int) by omega]
   obtain ⟨i, hi, ho⟩ := hb.1 rfl
   exact ih (d + 1) k true (by omega) (by omega) ⟨fun _ => ⟨i, by omega, ho⟩, fun _ => rfl⟩ R (fun k' hk' => hR k' (by omega))
  | false =>
   rw [if_neg (by decide), rOver h h0 h1 (by omega) k (by omega), Option.bind_some, w64 (n := (d : Int) + 1) (by omega) (by omega), show (d : Int) + 1 = ((d + 1 : Nat) : Int) by omega]
   refine ih (d + 1) k _ (by omega) (by omega) ?_ R (fun k' hk' => hR k' (by omega))
   rw [decide_eq_true_eq]
   by_cases q : OverS W H c (d : Int)
   ·have r := nb_rng h h0 h1 (s := (d : Int)) (by omega) q.1
    rw [if_pos q]
    exact ⟨fun _ => ⟨d, by omega, q⟩, fun _ => r.1⟩
   ·rw [if_neg q]
    refine ⟨fun r => absurd r (by omega), ?_⟩
    rintro ⟨i, hi, ho⟩
    rcases Nat.lt_or_ge i d with c1 | c1
    ·have := hb.2 ⟨i, c1, ho⟩; cases this
    ·obtain rfl : i = d := by omega
     exact absurd ho q
theorem rCells_loop (h : Dim W H) {s : Int} (hs : inS W H s) : ∀ (d l k : Nat), l + d = (tw W s * th W H s).toNat → d * 6 + 40 < k → herdsmanref11_Cells.l0 k W H s (((gloL W H s).take l).filter fun c => decide (edgeS W H c)) (tw W s) (th W H s) (l : Int) = some (cellsS W H s) := by
 have bx := box_wh h hs
 have gl := gloL_len (W := W) (H := H) (s := s)
 intro d
 induction d with
 | zero =>
  intro l k hl hk
  obtain ⟨k, rfl⟩ : ∃ q, k = q + 1 := ⟨k - 1, by omega⟩
  rw [herdsmanref11_Cells.l0, w64 (n := tw W s * th W H s) (by omega) (by omega), if_neg (by omega), List.take_of_length_le (by omega)]
  rfl
 | succ d ih =>
  intro l k hl hk
  obtain ⟨k, rfl⟩ : ∃ q, k = q + 1 := ⟨k - 1, by omega⟩
  have l1 : (l : Int) < tw W s * th W H s := by omega
  have g := glo_rng h hs.1 hs.2 (l := (l : Int)) (by omega) l1
  have hx : (gloL W H s)[l]'(by omega) = glo W s (l : Int) := by simp [gloL]
  have hfl : (((gloL W H s).take l).filter fun c => decide (edgeS W H c)).length ≤ 256 := by
   have h1 := List.length_filter_le (fun c => decide (edgeS W H c)) ((gloL W H s).take l)
   rw [List.length_take] at h1
   omega
  have hn : (((gloL W H s).take (l + 1)).filter fun c => decide (edgeS W H c)) = (((gloL W H s).take l).filter fun c => decide (edgeS W H c)) ++ (if decide (edgeS W H (glo W s (l : Int))) = true then [glo W s (l : Int)] else []) := by
   rw [List.take_succ_eq_append_getElem (by omega), List.filter_append, hx]
   congr 1
   by_cases q : edgeS W H (glo W s (l : Int)) <;> simp [q]
  rw [herdsmanref11_Cells.l0, w64 (n := tw W s * th W H s) (by omega) (by omega), if_pos l1, rGlobal h hs (by omega) l1, Option.bind_some]
  refine rCells_side h g.1 g.2 _ _ _ _ 4 0 k false (by omega) (by omega) ⟨fun q => absurd q (by decide), fun ⟨i, hi, _⟩ => absurd hi (by omega)⟩ _ (fun k' hk' => ?_)
  have hih := ih (l + 1) k' (by omega) (by omega)
  rw [hn] at hih
  rw [w64 (n := (l : Int) + 1) (by omega) (by omega), show (l : Int) + 1 = ((l + 1 : Nat) : Int) by omega]
  by_cases q : edgeS W H (glo W s (l : Int))
  ·rw [decide_eq_true q, if_pos rfl] at hih
   rw [decide_eq_true q, if_pos rfl, if_pos (by omega)]
   exact hih
  ·rw [decide_eq_false q, if_neg (by decide), List.append_nil] at hih
   rw [decide_eq_false q, if_neg (by decide)]
   exact hih
theorem rCells (h : Dim W H) {s : Int} (hs : inS W H s) (k : Nat) (hk : 1700 ≤ k) : herdsmanref11_Cells.f k W H s = some (cellsS W H s) := by
 have bx := box_wh h hs
 unfold herdsmanref11_Cells.f
 rw [rSize h hs, Option.bind_some]
 have := rCells_loop h hs (tw W s * th W H s).toNat 0 k (by omega) (by omega)
 simpa using this
theorem rCells_no (h : Dim W H) {s : Int} (hs : ¬ inS W H s) (k : Nat) (hk : 10 ≤ k) : herdsmanref11_Cells.f k W H s = some [] := by
 obtain ⟨k, rfl⟩ : ∃ q, k = q + 1 := ⟨k - 1, by omega⟩
 unfold herdsmanref11_Cells.f
 rw [rSize_no h hs, Option.bind_some]
 dsimp only
 rw [herdsmanref11_Cells.l0, if_neg (by rw [w64 (by omega) (by omega)]; omega)]
theorem rNodes_loop (h : MapOk W H C) {X : List Int} (hX : X.length ≤ 1000000) : ∀ (d i k : Nat), i + d = X.length → d < k → (∀ c ∈ X, 0 ≤ c ∧ c < W * H) → herdsmanref11_Nodes.l0 k ((X.take i).filter fun c => decide (rd C c ≠ 255)) X (i : Int) W H C = some (X.filter fun c => decide (rd C c ≠ 255)) := by
 intro d
 induction d with
 | zero =>
  intro i k hi hk hc
  obtain ⟨k, rfl⟩ : ∃ q, k = q + 1 := ⟨k - 1, by omega⟩
  rw [herdsmanref11_Nodes.l0, if_neg (by omega), List.take_of_length_le (by omega)]
 | succ d ih =>
  intro i k hi hk hc
  obtain ⟨k, rfl⟩ : ∃ q, k = q + 1 := ⟨k - 1, by omega⟩
  have hil : i < X.length := by omega
  have hm := hc _ (List.getElem_mem hil)
  have hfl : ((X.take i).filter fun c => decide (rd C c ≠ 255)).length ≤ 1000000 := by
   have h1 := List.length_filter_le (fun c => decide (rd C c ≠ 255)) (X.take i)
   rw [List.length_take] at h1
   omega
  have hih := ih (i + 1) k (by omega) (by omega) hc
  rw [List.take_succ_eq_append_getElem hil, List.filter_append] at hih
  rw [herdsmanref11_Nodes.l0, if_pos (by omega), if_pos (by omega), rd_get X hil, rOpen h, Option.bind_some, w64 (n := (i : Int) + 1) (by omega) (by omega), show (i : Int) + 1 = ((i + 1 : Nat) : Int) by omega]
  by_cases q : rd C X[i] ≠ 255
  ·rw [decide_eq_true ⟨hm, q⟩, if_pos rfl, if_pos (by omega)]
   simpa [q] using hih
  ·rw [decide_eq_false (fun r => q r.2), if_neg (by decide)]
   simpa [q] using hih
theorem rNodes (h : MapOk W H C) {s : Int} (hs : inS W H s) (k : Nat) (hk : 1700 ≤ k) : herdsmanref11_Nodes.f k W H C s = some (nodesL W H C s) := by
 have bx := box_wh h.dim hs
 have hcl : (cellsS W H s).length ≤ 256 := by
  have h1 := List.length_filter_le (fun c => decide (edgeS W H c)) (gloL W H s)
  rw [gloL_len] at h1
  unfold cellsS
  omega
 unfold herdsmanref11_Nodes.f
 rw [rCells h.dim hs k hk, Option.bind_some]
 have := rNodes_loop h (X := cellsS W H s) (by omega) (cellsS W H s).length 0 k (by omega) (by omega) (fun c hc => by
  unfold cellsS at hc
  rw [List.mem_filter, mem_gloL h.dim hs] at hc
  exact hc.1.1)
 rw [show (cellsS W H s).filter (fun c => decide (rd C c ≠ 255)) = nodesL W H C s by
  unfold cellsS nodesL
  rw [List.filter_filter]
  congr 1
  funext c
  rw [Bool.and_comm]] at this
 simpa using this
theorem rNodes_no (h : MapOk W H C) {s : Int} (hs : ¬ inS W H s) (k : Nat) (hk : 10 ≤ k) : herdsmanref11_Nodes.f k W H C s = some [] := by
 unfold herdsmanref11_Nodes.f
 rw [rCells_no h.dim hs k hk, Option.bind_some]
 obtain ⟨k, rfl⟩ : ∃ q, k = q + 1 := ⟨k - 1, by omega⟩
 rw [herdsmanref11_Nodes.l0, if_neg (by simp)]
def nodeS (W H : Int) (C : List Int) (c : Int) : Prop := (0 ≤ c ∧ c < W * H) ∧ edgeS W H c ∧ rd C c ≠ 255
instance (W H : Int) (C : List Int) (c : Int) : Decidable (nodeS W H C c) := inferInstanceAs (Decidable (_ ∧ _))
noncomputable def refD (W H : Int) (C : List Int) (a b : Int) : Int := if nodeS W H C a ∧ nodeS W H C b ∧ sec W a = sec W b then distN W H C (sec W b) a b else INF
theorem rDist (h : MapOk W H C) (a b : Int) (k : Nat) (hk : 2000 ≤ k) : herdsmanref11_Dist.f k W H C a b = some (refD W H C a b) := by
 obtain ⟨k, rfl⟩ : ∃ q, k = q + 1 := ⟨k - 1, by omega⟩
 have hno : ∀ x : Bool, x = true → herdsmanref11_Dist.j0 (k + 1) a b x W H C = some INF := by
  intro x hx
  rw [herdsmanref11_Dist.j0, if_pos hx]
  try rfl
 unfold herdsmanref11_Dist.f refD
 rw [rIsNode h a _ (by omega), Option.bind_some]
 by_cases ha : (0 ≤ a ∧ a < W * H) ∧ edgeS W H a ∧ rd C a ≠ 255
 ·rw [decide_eq_true ha, if_pos rfl, rIsNode h b _ (by omega), Option.bind_some]
  by_cases hb : (0 ≤ b ∧ b < W * H) ∧ edgeS W H b ∧ rd C b ≠ 255
  ·rw [decide_eq_true hb, if_pos rfl, rSector h.dim, if_pos ha.1, Option.bind_some, rSector h.dim, if_pos hb.1, Option.bind_some]
   by_cases hs : sec W a = sec W b
   ·have sb := sec_rng h.dim hb.1.1 hb.1.2
    have hx : (sec W a != sec W b) = false := by rw [hs]; simp
    have ra := loc_rng h.dim ha.1.1 ha.1.2
    have rb := loc_rng h.dim hb.1.1 hb.1.2
    have tb := tile_loc (C := C) h.dim hb.1.1 hb.1.2
    rw [hs] at ra
    have hbx := box_wh h.dim sb
    have htl := tileL_len (W := W) (H := H) (C := C) (s := sec W b)
    have ht := tile_ok h sb
    have hbb : ∀ y ∈ tileL W H C (sec W b), 0 ≤ y ∧ y ≤ 255 := fun y hy => by have := tile_bytes h sb y hy; omega
    have hok := one_ok ht (x := loc W b) rb.1 (by rw [htl]; omega) (by rw [tb]; exact hb.2.2)
    have hlen : (distOf (tw W (sec W b)) (tileL W H C (sec W b)) [⟨loc W b, 4, 0⟩]).length = (tileL W H C (sec W b)).length := dist_len hbb hok
    rw [if_pos ⟨ha, hb, hs⟩, hx, herdsmanref11_Dist.j0, if_neg (by decide), rSector h.dim, if_pos ha.1, Option.bind_some, hs, rTile h sb k (by omega), Option.bind_some]
    dsimp only
    rw [rLocal h.dim hb.1.1 hb.1.2, Option.bind_some]
    rw [show herdsmanref7_Spread.f (tw W (sec W b)) (th W H (sec W b)) (tileL W H C (sec W b)) [(⟨loc W b, 4, 0⟩ : Seed)] = some (distOf (tw W (sec W b)) (tileL W H C (sec W b)) [⟨loc W b, 4, 0⟩]) from refSp_some hbb hok (by simp), Option.bind_some, rLocal h.dim ha.1.1 ha.1.2, Option.bind_some, if_pos ra.1, if_pos (by rw [hlen, htl]; omega)]
    rfl
   ·rw [if_neg (fun q => hs q.2.2)]
    exact hno _ (by rw [bne_iff_ne]; exact hs)
  ·rw [decide_eq_false hb, if_neg (by decide), if_neg (fun q => hb q.2.1)]
   exact hno true rfl
 ·rw [decide_eq_false ha, if_neg (by decide), if_neg (fun q => ha q.1)]
  exact hno true rfl
end Go.Proofs.YthgehdembghdaaaGreat.P
