/-
 PLAIN, and memory: what stays of a mesh while the map is edited (MeshKeeps).
-/
import Derived.Test.YthgehdembghdaaaGreatXWay1
import Derived.Test.YthgehdembghdaaaGreatXRef11
import Derived.Test.YthgehdembghdaaaGreatXFind3
import Derived.Test.YthgehdembghdaaaGreatPxB
namespace Go.Proofs.YthgehdembghdaaaGreat.P
open Go.RowKit Go.Proofs.YthgehdembghdaaaGreatW.PrintWords Go.Proofs.YthgehdembghdaaaGreatW.PrintLast Go.Proofs.YthgehdembghdaaaGreatW.PrintMore
open Go.Proofs.YthgehdembghdaaaGreat.Geo Go.Proofs.YthgehdembghdaaaGreat.Dist
set_option linter.unusedVariables false
set_option linter.unusedSimpArgs false
variable {w w' wr w2 : World} {g : Gb} {s : GridS} {m : Mb} {x : MeshS} {W H : Int} {C : List Int} {gt mb cb : Nat}
theorem rd_other {C : List Int} {c : Nat} {y : Int} {d : Int} (hd : 0 ≤ d) (hne : d ≠ (c : Int)) : rd (C.set c y) d = rd C d := by
 obtain ⟨n, rfl⟩ : ∃ n : Nat, d = n := ⟨d.toNat, by omega⟩
 by_cases h : n < C.length
 ·rw [rd_set' _ _ _ _ h, if_neg (by omega)]
 ·unfold rd
  rw [List.getD_eq_getElem?_getD, List.getD_eq_getElem?_getD, List.getElem?_eq_none (by simpa using h), List.getElem?_eq_none (by simpa using h)]
theorem tile_set (h : Dim W H) {i : Int} (hi : inS W H i) {c : Nat} (hc : sec W (c : Int) ≠ i) (y : Int) : tileL W H (C.set c y) i = tileL W H C i ∧ nodesL W H (C.set c y) i = nodesL W H C i := by
 have key : ∀ d, d ∈ gloL W H i → rd (C.set c y) d = rd C d := by
  intro d hd
  have q := (mem_gloL h hi).1 hd
  exact rd_other q.1.1 (fun e => hc (by rw [← e]; exact q.2))
 constructor
 ·unfold tileL
  exact List.map_congr_left key
 ·unfold nodesL
  refine List.filter_congr (fun d hd => ?_)
  rw [key d hd]
theorem part_set (h : Dim W H) {i : Int} (hi : inS W H i) {c : Nat} (hc : sec W (c : Int) ≠ i) (y : Int) {p : Part} (hp : PartOk W H C i p) : PartOk W H (C.set c y) i p := by
 obtain ⟨e1, e2⟩ := tile_set (C := C) h hi hc y
 refine ⟨by rw [e2]; exact hp.nodes, hp.dlen, fun a b ha hb => ?_⟩
 rw [hp.dist a b ha hb]
 unfold distN
 rw [e1]
def KP (s : GridS) (x : MeshS) : Prop := ∀ i : Nat, i < x.ps.length → ¬ dirtyI s x i → PartOk s.W s.H s.C (i : Int) (x.ps.getD i default)
theorem KP.edit {cl n i : Nat} (h : KP s x) (hd : DInv s x W H cl n i) (hdim : Dim s.W s.H) (hv : s.V.length = n) (hx : (x.ps.length : Int) = cnt s.W s.H) {c : Nat} (hc : (c : Int) < s.W * s.H) (y : Int) : KP (gEd s c y) x := by
 intro j hj hn
 have r := sec_rng hdim (c := (c : Int)) (by omega) hc
 have e := hd.dirty hv c y rfl j (by rw [← hd.len]; exact hj)
 have hn1 : ¬ dirtyI s x j := fun q => hn (e.2 (.inl q))
 have hn2 : (j : Nat) ≠ (sec s.W (c : Int)).toNat := fun q => hn (e.2 (.inr q))
 exact part_set hdim ⟨by omega, by omega⟩ (fun q => hn2 (by omega)) y (h j hj hn1)
theorem Fresh.kp (h : Fresh s x) : KP s x := fun i hi _ => h.part i hi
theorem KP.reb {x' : MeshS} (h : KP s x) (hok : MapOk s.W s.H s.C) (hl : (x'.ps.length : Int) = cnt s.W s.H) (hr : RebR s x x') : Fresh s x' := by
 refine ⟨hok, hl, fun i hi => ?_⟩
 rw [hr.len] at hi
 by_cases q : dirtyI s x i
 ·exact (hr.new i hi q).2
 ·rw [hr.old i hi q]; exact h i hi q
theorem kinv0 {n cl : Nat} (hok : MapOk W H C) (hn : (n : Int) = cnt W H) (hc : cl = C.length) : DInv (grid0 W H C) (mesh0 W H) W H cl n 0 := by
 have e : (cnt W H).toNat = n := by omega
 refine ⟨⟨rfl, rfl, hc.symm⟩, by show (List.replicate _ _).length = n; rw [List.length_replicate, e], fun j hj => ?_, fun j hj => ?_, by show (0 : Int) ≤ 1; omega, fun q => absurd (show (0 : Int) = 1 from q) (by omega), by show (1 : Int) ≤ 1 + ((0 : Nat) : Int); omega, by show (0 : Int) ≤ 4096 * ((0 : Nat) : Int); omega⟩
 ·show ((List.replicate (cnt W H).toNat (default : Part)).getD j default).ver ≤ 1
  rw [e, List.getD_eq_getElem?_getD, List.getElem?_replicate, if_pos hj]
  decide
 ·show rd (List.replicate (cnt W H).toNat 1) (j : Int) ≤ 1
  rw [e, rd_get _ (by simpa using hj), List.getElem_replicate]
  decide
theorem fresh_dist (h : Fresh s x) (a b : Int) : distM s x a b = refD s.W s.H s.C a b := by
 unfold distM refD
 have e : ∀ c, isNode s x c ↔ nodeS s.W s.H s.C c := fun c => isNode_iff h c
 by_cases q : isNode s x a ∧ isNode s x b ∧ sec s.W a = sec s.W b
 ·obtain ⟨qa, qb, qs⟩ := q
  have hp : partC s x a = partC s x b := by unfold partC; rw [qs]
  have hm := qa.2
  rw [hp] at hm
  rw [if_pos ⟨qa, qb, qs⟩, if_pos ⟨(e a).1 qa, (e b).1 qb, qs⟩, pair_fresh h qb (idx_lt' hm), idx_rd hm]
 ·rw [if_neg q, if_neg (fun r => q ⟨(e a).2 r.1, (e b).2 r.2.1, r.2.2⟩)]
theorem WayM.store {w3 : World} {mb' cb' : Nat} {C' : List Int} (h : WayM w wr g m s x W H gt mb cb C) (hb : Below wr.heap.size wr w3) (hr : Kd.R (Kd.int .u8) 5 w3 wr.heap.size (fun _ => True) (.slice (some ⟨mb', 0, none⟩) C'.length cb') C') :
  WayM w (((w3.setCell ⟨gt, 0, none⟩ (.int .i64 W)).setCell ⟨gt, 1, none⟩ (.int .i64 H)).setCell ⟨gt, 2, none⟩ (.slice (some ⟨mb', 0, none⟩) C'.length cb')) g m s x W H gt mb' cb' C' := by
 have h3 := h.go hb
 have hc34 : Chg (fun b => b = gt) w3 (((w3.setCell ⟨gt, 0, none⟩ (.int .i64 W)).setCell ⟨gt, 1, none⟩ (.int .i64 H)).setCell ⟨gt, 2, none⟩ (.slice (some ⟨mb', 0, none⟩) C'.length cb')) := (((Chg.refl (fun b => b = gt) w3).set_ (.inl rfl) _).set_ (.inl rfl) _).set_ (.inl rfl) _
 have hlow : wr.heap.size ≤ mb' := Kd.R_base hr mb' rfl
 have hgl : gt < wr.heap.size := blk_lt h.box
 have hr3 : Kd.R (Kd.int .u8) 5 w3 w.heap.size (fun b => b = mb') (.slice (some ⟨mb', 0, none⟩) C'.length cb') C' := by
  obtain ⟨h0, inner, ho, hrr⟩ := Kd.R_lower hr h.below.size
  exact ⟨fun k hk => by simp [Value.ownBlock] at hk; exact hk.symm, inner, ho, hrr.imp_ (fun _ _ hp => hp)⟩
 refine ⟨h3.net.chg hc34 (fun b hb e => by subst e; exact h3.net.notown h3.box (.inl rfl) hb) (by rintro k rfl cs; exact ⟨typ_ne h3.box (by decide), typ_ne h3.box (by decide)⟩), set_blk (set_blk (set_blk h3.box 0 _) 1 _) 2 _, hc34.R hr3 (fun k hk q => by subst hk; omega), fun b hb2 => ⟨(h.low b hb2).1, fun e => ?_⟩, ?_, h.gtl⟩
 ·have hl : b < wr.heap.size := by
   obtain ⟨cs, t, h1, _⟩ := h.net.odds hb2
   exact blk_lt h1
  omega
 ·exact ((h3.below.setCell h.gtl _).setCell h.gtl _).setCell h.gtl _
theorem edited_some {c : Nat} {y : Int} (hc : c < C.length) (hl : C.length ≤ 1048576) : herdsmanref11_Edited.f W H C (c : Int) y = some (W, H, C.set c y) := by
 unfold herdsmanref11_Edited.f herdsmanref1_Own.f
 rw [Option.bind_some, if_pos (by simp; omega), Option.bind_some]
 dsimp only
 rw [List.nil_append, if_pos (by omega), if_pos (by omega), Int.toNat_natCast]
theorem sameMap_some (W H : Int) (C : List Int) : herdsmanref1_SameMap.f W H C W H C = some true := by
 unfold herdsmanref1_SameMap.f herdsmanref1_Bytes.f
 rw [if_pos rfl, if_pos rfl, Option.bind_some]
 simp
theorem within_nat (x : Int) {n : Nat} (h : 1 ≤ n) (hn : n ≤ 1048576) : ∃ p : Nat, p < n ∧ herdsmanref1_Within.f x 0 ((n : Int) - 1) = some (p : Int) := by
 have hw := within_some x (lo := 0) (hi := (n : Int) - 1) (by omega) (by omega) (by omega)
 have r0 := Int.emod_nonneg x (show (n : Int) - 1 - 0 + 1 ≠ 0 by omega)
 have r1 := Int.emod_lt_of_pos x (show 0 < (n : Int) - 1 - 0 + 1 by omega)
 refine ⟨(0 + x % ((n : Int) - 1 - 0 + 1)).toNat, by omega, ?_⟩
 rw [hw, Int.toNat_of_nonneg (by omega)]
theorem dist_same {s s' : GridS} (hw : s.W = s'.W) (hh : s.H = s'.H) (x : MeshS) (a b : Int) : distM s x a b = distM s' x a b := by
 obtain ⟨W1, H1, C1, e1, V1⟩ := s
 obtain ⟨W2, H2, C2, e2, V2⟩ := s'
 have hw' : W1 = W2 := hw
 have hh' : H1 = H2 := hh
 subst hw' hh'
 rfl
theorem WayM.cells (h : WayM w wr g m s x W H gt mb cb C) : wr.cell? ⟨gt, 0, none⟩ = some (.int .i64 W) ∧ wr.cell? ⟨gt, 1, none⟩ = some (.int .i64 H) ∧ wr.cell? ⟨gt, 2, none⟩ = some (.slice (some ⟨mb, 0, none⟩) C.length cb) := ⟨cell_blk h.box rfl, cell_blk h.box rfl, cell_blk h.box rfl⟩
end Go.Proofs.YthgehdembghdaaaGreat.P
