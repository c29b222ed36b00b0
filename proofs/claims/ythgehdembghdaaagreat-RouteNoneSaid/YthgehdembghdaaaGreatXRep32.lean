/-
 WALKED BY HAND: slices.Repeat of one number of 32 bits.
-/
import Derived.Test.YthgehdembghdaaaGreatXMesh3
import Derived.Test.YthgehdembghdaaaGreatXSpread
import Derived.Test.YthgehdembghdaaaGreatPx6
namespace Go.Proofs.YthgehdembghdaaaGreat.P
open Go.RowKit Go.Proofs.YthgehdembghdaaaGreatW.PrintWords Go.Proofs.YthgehdembghdaaaGreatW.PrintLast Go.Proofs.YthgehdembghdaaaGreatW.PrintMore
open Go.Proofs.YthgehdembghdaaaGreat.Dist
set_option linter.unusedVariables false
set_option linter.unusedSimpArgs false
def encD (x : Int) : List Value := [.int .i32 x]
structure RepD (w0 w : World) (gd n m : Nat) (x : Int) : Prop where
 le : m ≤ n
 ex : ∃ cs, w.heap[gd]? = some (.cells cs 21 (0, 0)) ∧ cs.size = n ∧ ∀ j, j < m → cs[j]? = some (.int .i32 x)
 below : Below w0.heap.size w0 w
 ge : w0.heap.size ≤ gd
theorem RepD.copy {w0 w : World} {gd n m : Nat} {x : Int} (h : RepD w0 w gd n m x) {k : Nat} (hk : m + k ≤ n) : RepD w0 (w.setCells gd m (List.replicate k (.int .i32 x))) gd n (m + k) x := by
 obtain ⟨cs, h1, h2, h3⟩ := h.ex
 obtain ⟨cs', g1, g2, g3, g4⟩ := setCells_block gd (List.replicate k (.int .i32 x)) m w cs _ _ h1
 refine ⟨hk, ⟨cs', g1, by omega, fun j hj => ?_⟩, h.below.grown (setCells_grown gd _ _ _) (h.below.size) (fun q hq => by
  have h1 : gd = q := by simpa using hq
  have h2 := h.ge
  omega), h.ge⟩
 by_cases hjm : j < m
 ·rw [g3 j (.inl hjm)]; exact h3 j hjm
 ·have := g4 (j - m) (by rw [List.length_replicate]; omega) (by omega)
  rw [show m + (j - m) = j by omega] at this
  rw [this, List.getElem?_replicate, if_pos (by omega)]
theorem RepD.cell {w0 w : World} {gd n m : Nat} {x : Int} (h : RepD w0 w gd n m x) {j : Nat} (hj : j < m) : w.cell? ⟨gd, j, none⟩ = some (.int .i32 x) := by
 obtain ⟨cs, h1, h2, h3⟩ := h.ex
 exact cell_blk h1 (h3 j hj)
theorem RepD.some_ {w0 w : World} {gd n m : Nat} {x : Int} (h : RepD w0 w gd n m x) {j : Nat} (hj : j < n) : (w.cell? ⟨gd, j, none⟩).isSome = true := by
 obtain ⟨cs, h1, h2, h3⟩ := h.ex
 rw [cell_blk h1 (Array.getElem?_eq_getElem (show j < cs.size by omega))]
 rfl
theorem RepD.free {w0 w : World} {gd n m : Nat} {x : Int} (h : RepD w0 w gd n m x) (j : Nat) : w.frozen? ⟨gd, j, none⟩ = false := by
 obtain ⟨cs, h1, h2, h3⟩ := h.ex
 exact free_blk h1 j
theorem RepD.drawn {w0 w : World} {gd n m : Nat} {x : Int} (h : RepD w0 w gd n m x) (q : Nat) : RepD w0 (w.drewN q) gd n m x := by
 obtain ⟨cs, h1, h2, h3⟩ := h.ex
 exact ⟨h.le, ⟨cs, by rw [drewN_heap']; exact h1, h2, h3⟩, below_step h.below (Drawn0.below ⟨⟨q, rfl⟩⟩), h.ge⟩
theorem copy_runD {w0 w : World} {gd n m : Nat} {x : Int} (h : RepD w0 w gd n m x) (a : Addr) (sLen sCap dLen dCap k : Nat) (hk : k = Nat.min sLen dLen) (hmk : m + k ≤ n) (hsrc : ∀ j, j < k → w.cell? (a.add j) = some (.int .i32 x)) :
  Sem.run Tryz.prog (Builtin.copy_ #[109, 109] 3 #[.slice (some ⟨gd, m, none⟩) dLen dCap, .slice (some a) sLen sCap]) w = .ok (.int .i64 (k : Int)) (w.setCells gd m (List.replicate k (.int .i32 x))) := by
 have h1 : (Tryz.prog.info? 21).map (·.size) = some 1 := by kernel_rfl
 have := run_copy_cells (P := Tryz.prog) w 109 109 3 21 gd m dLen dCap a sLen sCap (List.replicate k (.int .i32 x)) Tryz.underlying109 h1 (by rw [List.length_replicate]; exact hk) (fun j v hv => by
  rw [List.getElem?_replicate] at hv
  split at hv
  ·rw [hsrc j (by assumption)]; exact hv
  ·exact absurd hv (by simp)) (fun j hj => h.some_ (by rw [List.length_replicate] at hj; omega)) (fun j _ => h.free _) (fun v hv => by rw [List.eq_of_mem_replicate hv]; rfl)
 rw [List.length_replicate] at this
 exact this
theorem mul_callsD (n : Nat) (hn : n ≤ 1048576) (w : World) : Calls Tryz.prog 141 #[.int .u64 1, .int .u64 n] w fun e w' => e = .returned (.tuple #[.int .u64 0, .int .u64 n]) ∧ w' = w := by
 refine (Any.bits_Mul Tryz.mulLay 1 n (by decide) (by omega) w).mono ?_
 rintro e w' ⟨rfl, rfl⟩
 refine ⟨?_, rfl⟩
 rw [Nat.one_mul, Nat.div_eq_of_lt (by omega), Nat.mod_eq_of_lt (by omega)]
 rfl
set_option maxRecDepth 100000 in
set_option maxHeartbeats 2000000 in
theorem repeat_callsD (B : Nat) (cap : Nat) (x : Int) (n : Nat) (hn : 1 ≤ n ∧ n ≤ 1048576) (w : World) (h : w.cell? ⟨B, 0, none⟩ = some (.int .i32 x)) :
  Calls Tryz.prog 114 #[.slice (some ⟨B, 0, none⟩) 1 cap, .int .i64 n] w fun e w' => ∃ gd, e = .returned (.slice (some ⟨gd, 0, none⟩) n n) ∧ RepD w w' gd n n x := by
 have hn0 : (0 : Int) ≤ (n : Int) := by omega
 have hbig : (n : Int) ≤ 1048576 := by omega
 have hone : (1 : Int) ≤ (n : Int) := by omega
 have hw : IntKind.u64.wrap (n : Int) = (n : Int) := Mul64.wrapN n (by omega)
 have hw1 : IntKind.u64.wrap 1 = 1 := by decide
 obtain ⟨i0, hi, hzz⟩ := Option.map_eq_some_iff.1 infoD
 simp only [Prod.mk.injEq] at hzz
 obtain ⟨hz0, hz1, hz2⟩ := hzz
 have hmk : ∀ w : World, Sem.run Tryz.prog (Instr.makeSlice 109 (.int .i64 n) (.int .i64 n)) w = .ok (.slice (some ⟨w.heap.size, 0, none⟩) n n) (w.alloc (.cells (madeCells #[.int .i32 0] n) 21)) := fun w => by
  have := run_make (P := Tryz.prog) w 109 21 i0 (.int .i32 0) Tryz.underlying109 hi hz0 .i64 .i64 (n : Int) (n : Int) (by omega) (by omega) (by rw [hz2]; omega) (by omega)
  rw [hz1] at this
  simp only [Int.toNat_natCast, Nat.mul_one] at this
  exact this
 have hstart : RepD w (w.alloc (.cells (madeCells #[.int .i32 0] n) 21)) w.heap.size n 0 x := ⟨Nat.zero_le _, ⟨_, heap_alloc_new _ _, by simp [size_madeCells], fun j hj => by omega⟩, below_alloc (Below.refl _ _) _, Nat.le_refl _⟩
 have hcp := copy_runD hstart ⟨B, 0, none⟩ 1 cap n n 1 (by simp [Nat.min_def]; omega) (by omega) (fun j hj => by
  have : j = 0 := by omega
  subst this
  rw [Addr.add_zero', World.cell?_of_block (heap_alloc_old w _ (World.block_lt_of_cell? w _ h))]
  exact h)
 have HS := Aside0.mk (hstart.copy (k := 1) (by omega))
 have HCP := Aside0.mk hcp
 have HN := Aside0.mk hn
 clear hstart hcp hi hz0 hz1 hz2 hn
 clear h
 go_enter Tryz.func114, Tryz.ntmps114
 go_wp2_with (go_at_call 141; refine (mul_callsD n HN.out.2 _).mono ?_; rintro e w' ⟨rfl, rfl⟩)
 rw [show Sem.run Tryz.prog _ _ = _ from HCP.out]
 clear HCP hmk
 generalize hW1 : (w'.alloc (.cells (madeCells #[.int .i32 0] n) 21)).setCells w'.heap.size 0 (List.replicate 1 (.int .i32 x)) = w1 at HS ⊢
 clear hW1
 generalize hgd : w'.heap.size = gd at *
 clear hgd
 go_wp2_with fail
 go_loopg [8] n (fun gg s8 wr => ∃ m : Nat, s8 = .int .i64 m ∧ 1 ≤ m ∧ n - m ≤ gg ∧ Aside0 (RepD w' wr gd n m x))
 case atStart => exact ⟨1, rfl, Nat.le_refl _, by omega, HS⟩
 case round =>
  obtain ⟨m, rfl, hm1, hgg, HR⟩ := hrel
  have hmn := HR.out.le
  by_cases hlt : m < n
  ·have hlt2 : (m : Int) < (n : Int) := by omega
   have hm63 : (m : Int) ≤ (n : Int) := by omega
   have hcp := fun q => copy_runD (HR.out.drawn q) ⟨gd, 0, none⟩ m n (n - m) (n - m) (Nat.min m (n - m)) rfl (by have := Nat.min_le_right m (n - m); show m + Nat.min m (n - m) ≤ n; have : Nat.min m (n - m) ≤ n - m := Nat.min_le_right _ _; omega) (fun j hj => by
    have : Nat.min m (n - m) ≤ m := Nat.min_le_left _ _
    have h2 := (HR.out.drawn q).cell (j := j) (by omega)
    have he : (⟨gd, 0, none⟩ : Addr).add j = ⟨gd, j, none⟩ := by unfold Addr.add; split <;> simp_all
    rw [he]
    exact h2)
   have HCP := Aside0.mk hcp
   clear hcp
   obtain ⟨k, hk⟩ : ∃ k, k = Nat.min m (n - m) := ⟨_, rfl⟩
   have hk1 : 1 ≤ k := by rw [hk]; exact Nat.le_min.2 ⟨hm1, by omega⟩
   have hkm : k ≤ n - m := by rw [hk]; exact Nat.min_le_right _ _
   rw [← hk] at HCP
   clear hk
   go_wp2_with fail
   have c0 : wr.cell? ⟨gd, 0, none⟩ = some (.int .i32 x) := HR.out.cell (by omega)
   have hcp1 : Sem.run Tryz.prog (Builtin.copy_ #[109, 109] 3 #[.slice (some ⟨gd, m, none⟩) (n - m) (n - m), .slice (some ⟨gd, 0, none⟩) m n]) wr.drew = .ok (.int .i64 (k : Int)) (wr.drew.setCells gd m (List.replicate k (.int .i32 x))) := HCP.out 1
   have HR2 := Aside0.mk ((HR.out.drawn 1).copy (k := k) (by omega))
   have c2 : (wr.drew.setCells gd m (List.replicate k (.int .i32 x))).cell? ⟨gd, 0, none⟩ = some (.int .i32 x) := HR2.out.cell (by omega)
   have hwr : IntKind.i64.wrap ((m : Int) + (k : Int)) = ((m + k : Nat) : Int) := by rw [IntKind.wrap_i64]; omega
   go_region_held3 (fun w' => w'.cell? ⟨gd, 0, none⟩ = some (.int .i32 x)) (first | go_keep | exact c2 | assumption) (fail)
   go_wp2
   go_roundg (n - (m + k))
   case measure => omega
   case rel => exact ⟨m + k, by rw [Int.natCast_add], by omega, Nat.le_refl _, HR2⟩
  ·go_wp2_with fail
   go_ret
   have : m = n := by omega
   subst this
   exact ⟨_, rfl, HR.out⟩
theorem rep_madeD (B cap n : Nat) (hn : 1 ≤ n ∧ n ≤ 1048576) (x : Int) (w : World) (h : w.cell? ⟨B, 0, none⟩ = some (.int .i32 x)) :
  Calls Tryz.prog 114 #[.slice (some ⟨B, 0, none⟩) 1 cap, .int .i64 n] w fun e w' => ∃ gd, e = .returned (.slice (some ⟨gd, 0, none⟩) n n) ∧ Below w.heap.size w w' ∧ w.heap.size ≤ gd ∧ gd < w'.heap.size ∧ RowIn encD 1 21 gd n (List.replicate n x).toArray w' := by
 refine (repeat_callsD B cap x n hn w h).mono ?_
 rintro e w' ⟨gd, rfl, hI⟩
 obtain ⟨cs, h1, h2, h3⟩ := hI.ex
 refine ⟨gd, rfl, hI.below, hI.ge, blk_lt h1, ?_⟩
 refine ⟨cs, h1, by rw [h2, Nat.mul_one], by simp, fun j hj c hc => ?_⟩
 have hjn : j < n := by simpa using hj
 have hc0 : c = 0 := by omega
 subst hc0
 rw [Nat.mul_one, Nat.add_zero, h3 j hjn, getElem!_pos _ j (by simpa using hjn)]
 simp [encD]
end Go.Proofs.YthgehdembghdaaaGreat.P
