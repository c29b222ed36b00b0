/-
 A map of one's own, a grid, a mesh over it, in memory; the first Rebuild.
-/
import Derived.Test.YthgehdembghdaaaGreatXBuilt
import Derived.Test.YthgehdembghdaaaGreatXMDirty
import Derived.Test.YthgehdembghdaaaGreatXInto1
namespace Go.Proofs.YthgehdembghdaaaGreat.P
open Go.RowKit Go.Proofs.YthgehdembghdaaaGreatW.PrintWords Go.Proofs.YthgehdembghdaaaGreatW.PrintLast Go.Proofs.YthgehdembghdaaaGreatW.PrintMore
open Go.Proofs.YthgehdembghdaaaGreat.Geo Go.Proofs.YthgehdembghdaaaGreat.Dist
set_option linter.unusedVariables false
set_option linter.unusedSimpArgs false
variable {w w' wr w2 : World} {g : Gb} {s : GridS} {m : Mb} {x : MeshS} {W H : Int} {C : List Int} {gt mb cb : Nat}
structure WayM (w wr : World) (g : Gb) (m : Mb) (s : GridS) (x : MeshS) (W H : Int) (gt mb cb : Nat) (C : List Int) : Prop where
 net : Net wr g m s x
 box : wr.heap[gt]? = some (.cells #[.int .i64 W, .int .i64 H, .slice (some ⟨mb, 0, none⟩) C.length cb] 26 (0, 0))
 row : Kd.R (Kd.int .u8) 5 wr w.heap.size (fun b => b = mb) (.slice (some ⟨mb, 0, none⟩) C.length cb) C
 low : ∀ b, own2 g m b → w.heap.size ≤ b ∧ b ≠ mb
 below : Below w.heap.size w wr
 gtl : w.heap.size ≤ gt
theorem WayM.step {s2 : GridS} {x2 : MeshS} (h : WayM w wr g m s x W H gt mb cb C) (hn : Net w2 g m s2 x2) (hc : Chg (own2 g m) wr w2) : WayM w w2 g m s2 x2 W H gt mb cb C :=
 ⟨hn, hc.blk h.box (h.net.notown h.box (.inl rfl)), hc.R h.row (fun k hk q => (h.low k q).2 hk), h.low, h.below.trans (hc.below (fun b hb => (h.low b hb).1) h.below.size), h.gtl⟩
theorem WayM.go (h : WayM w wr g m s x W H gt mb cb C) (hb : Below wr.heap.size wr w2) : WayM w w2 g m s x W H gt mb cb C := h.step (h.net.below hb) (Chg.of_below hb _)
theorem WayM.start {w1 w3 : World} (h : BuiltR w w1 W H C mb cb g m) (hb : Below w1.heap.size w1 w3) (hg : gt = w1.heap.size) (hx : w3.heap[gt]? = some (.cells #[.int .i64 0, .int .i64 0, .slice none 0 0] 26 (0, 0))) :
  WayM w (((w3.setCell ⟨gt, 0, none⟩ (.int .i64 W)).setCell ⟨gt, 1, none⟩ (.int .i64 H)).setCell ⟨gt, 2, none⟩ (.slice (some ⟨mb, 0, none⟩) C.length cb)) g m (grid0 W H C) (mesh0 W H) W H gt mb cb C := by
 have hs1 := h.below.size
 have hgt : w.heap.size ≤ gt := by omega
 have hc34 : Chg (fun b => b = gt) w3 (((w3.setCell ⟨gt, 0, none⟩ (.int .i64 W)).setCell ⟨gt, 1, none⟩ (.int .i64 H)).setCell ⟨gt, 2, none⟩ (.slice (some ⟨mb, 0, none⟩) C.length cb)) := (((Chg.refl (fun b => b = gt) w3).set_ (.inl rfl) _).set_ (.inl rfl) _).set_ (.inl rfl) _
 have hn3 : Net w3 g m (grid0 W H C) (mesh0 W H) := h.net.below hb
 have hr3 : Kd.R (Kd.int .u8) 5 w3 w.heap.size (fun b => b = mb) (.slice (some ⟨mb, 0, none⟩) C.length cb) C := by
  obtain ⟨h0, inner, ho, hr⟩ := Kd.R_below h.row hb
  exact ⟨fun k hk => by simp [Value.ownBlock] at hk; exact hk.symm, inner, ho, hr.imp_ (fun _ _ hp => hp)⟩
 have hmlt : mb < w1.heap.size := by
  obtain ⟨cs, hcs⟩ := Kd.R_typed h.row mb rfl
  exact blk_lt hcs
 exact ⟨hn3.chg hc34 (fun b hb e => by subst e; exact hn3.notown hx (.inl rfl) hb) (by rintro k rfl cs; exact ⟨typ_ne hx (by decide), typ_ne hx (by decide)⟩), set_blk (set_blk (set_blk hx 0 _) 1 _) 2 _, hc34.R hr3 (fun k hk q => by subst hk; omega), h.apart, (((below_step h.below hb).setCell hgt _).setCell hgt _).setCell hgt _, hgt⟩
theorem dirty_first {n : Nat} (hn : (n : Int) = cnt W H) {j : Nat} (hj : j < n) : dirtyI (grid0 W H C) (mesh0 W H) j := by
 have : (cnt W H).toNat = n := by omega
 show (((List.replicate (cnt W H).toNat (default : Part)).getD j default).ver) ≠ rd (List.replicate (cnt W H).toNat 1) (j : Int)
 rw [this, rd_get _ (by simpa using hj), List.getElem_replicate, List.getD_eq_getElem?_getD, List.getElem?_replicate, if_pos hj]
 decide
theorem dirty_all {n : Nat} (hn : (n : Int) = cnt W H) : (dirtyL (grid0 W H C) (mesh0 W H) n).length = n := by
 unfold dirtyL
 rw [List.length_map, List.filter_eq_self.2, List.length_range]
 intro j hj
 rw [List.mem_range] at hj
 exact decide_eq_true (dirty_first hn hj)
theorem mesh0_len {n : Nat} (hn : (n : Int) = cnt W H) : (mesh0 W H).ps.length = n := by
 show (List.replicate (cnt W H).toNat (default : Part)).length = n
 rw [List.length_replicate]
 omega
theorem reb_first {n : Nat} (hn : (n : Int) = cnt W H) (h : WayM w wr g m (grid0 W H C) (mesh0 W H) W H gt mb cb C) : Calls Tryz.prog 23 #[.pointer (some ⟨m.xb, 0, none⟩)] wr fun e w' => ∃ x', e = .returned (.int .i64 (n : Int)) ∧ WayM w w' g m (grid0 W H C) x' W H gt mb cb C ∧ RebR (grid0 W H C) (mesh0 W H) x' ∧ Fresh (grid0 W H C) x' := by
 have hl := mesh0_len hn
 have hd := dirty_all (C := C) hn
 refine (mRebuild_calls h.net (by show (0 : Int) ≤ 100000000; omega) (fun q => absurd (show (0 : Int) = 1 from q) (by omega))).mono ?_
 rintro e w2 ⟨x', he, hnet, hr, hc⟩
 rw [hl, hd] at he
 refine ⟨x', he, h.step hnet (hc.mono (fun b hb => .inr hb)), hr, h.net.grid.ok, hnet.len, fun i hi => ?_⟩
 rw [hr.len, hl] at hi
 exact (hr.new i (by rw [hl]; exact hi) (dirty_first hn hi)).2
end Go.Proofs.YthgehdembghdaaaGreat.P
