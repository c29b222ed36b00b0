/-
  slices.Repeat at a row of one int.
-/
import Derived.Test.YtgcfcemgeppkmaaXRow
import Derived.Test.YtgcfcemgeppkmaaXRing
import Derived.Test.YtgcfcemgeppkmaaXLay
import Derived.Laws.IdiomCopy
import Derived.Deep.RegionHeld3
import Derived.Deep.QuietTactic
import Derived.Deep.LoopGhost
import Derived.Shelf.Bits.Mul64
namespace Go.Proofs.Ytgcfcemgeppkmaa.P
open Go.RowKit Go.Proofs.YtgcfcemgeppkmaaW.PrintWords Go.Proofs.YtgcfcemgeppkmaaW.PrintLast Go.Proofs.YtgcfcemgeppkmaaW.PrintMore
set_option linter.unusedVariables false
set_option linter.unusedSimpArgs false

/-- Of n cells the first m hold x. -/
structure RepI (w0 w : World) (gd n m : Nat) (x : Int) : Prop where
  le : m ≤ n
  ex : ∃ cs, w.heap[gd]? = some (.cells cs 3 (0, 0)) ∧ cs.size = n ∧ ∀ j, j < m → cs[j]? = some (.int .i64 x)
  below : Below w0.heap.size w0 w
  ge : w0.heap.size ≤ gd

/-- More of them are written. -/
theorem RepI.copy {w0 w : World} {gd n m : Nat} {x : Int} (h : RepI w0 w gd n m x) {k : Nat} (hk : m + k ≤ n) : RepI w0 (w.setCells gd m (List.replicate k (.int .i64 x))) gd n (m + k) x := by
  obtain ⟨cs, h1, h2, h3⟩ := h.ex
  obtain ⟨cs', g1, g2, g3, g4⟩ := setCells_block gd (List.replicate k (.int .i64 x)) m w cs _ _ h1
  refine ⟨hk, ⟨cs', g1, by omega, fun j hj => ?_⟩, h.below.grown (setCells_grown gd _ _ _) (h.below.size) (fun q hq => by
    have h1 : gd = q := by simpa using hq
    have h2 := h.ge
    omega), h.ge⟩
  by_cases hjm : j < m
  · rw [g3 j (.inl hjm)]; exact h3 j hjm
  · have := g4 (j - m) (by rw [List.length_replicate]; omega) (by omega)
    rw [show m + (j - m) = j by omega] at this
    rw [this, List.getElem?_replicate, if_pos (by omega)]
theorem RepI.cell {w0 w : World} {gd n m : Nat} {x : Int} (h : RepI w0 w gd n m x) {j : Nat} (hj : j < m) : w.cell? ⟨gd, j, none⟩ = some (.int .i64 x) := by
  obtain ⟨cs, h1, h2, h3⟩ := h.ex
  exact cell_blk h1 (h3 j hj)
theorem RepI.some_ {w0 w : World} {gd n m : Nat} {x : Int} (h : RepI w0 w gd n m x) {j : Nat} (hj : j < n) : (w.cell? ⟨gd, j, none⟩).isSome = true := by
  obtain ⟨cs, h1, h2, h3⟩ := h.ex
  rw [cell_blk h1 (Array.getElem?_eq_getElem (show j < cs.size by omega))]
  rfl
theorem RepI.free {w0 w : World} {gd n m : Nat} {x : Int} (h : RepI w0 w gd n m x) (j : Nat) : w.frozen? ⟨gd, j, none⟩ = false := by
  obtain ⟨cs, h1, h2, h3⟩ := h.ex
  exact free_blk h1 j
theorem RepI.drawn {w0 w : World} {gd n m : Nat} {x : Int} (h : RepI w0 w gd n m x) (q : Nat) : RepI w0 (w.drewN q) gd n m x := by
  obtain ⟨cs, h1, h2, h3⟩ := h.ex
  exact ⟨h.le, ⟨cs, by rw [drewN_heap']; exact h1, h2, h3⟩, below_step h.below (Drawn0.below ⟨⟨q, rfl⟩⟩), h.ge⟩
/-- What 'copy' does here. -/
theorem copy_run {w0 w : World} {gd n m : Nat} {x : Int} (h : RepI w0 w gd n m x) (a : Addr) (sLen sCap dLen dCap k : Nat) (hk : k = Nat.min sLen dLen) (hmk : m + k ≤ n) (hsrc : ∀ j, j < k → w.cell? (a.add j) = some (.int .i64 x)) :
    Sem.run Try.prog (Builtin.copy_ #[36, 36] 3 #[.slice (some ⟨gd, m, none⟩) dLen dCap, .slice (some a) sLen sCap]) w = .ok (.int .i64 (k : Int)) (w.setCells gd m (List.replicate k (.int .i64 x))) := by
  have h1 : (Try.prog.info? 3).map (·.size) = some 1 := by kernel_rfl
  have := run_copy_cells (P := Try.prog) w 36 36 3 3 gd m dLen dCap a sLen sCap (List.replicate k (.int .i64 x)) Try.underlying36 h1 (by rw [List.length_replicate]; exact hk) (fun j v hv => by
    rw [List.getElem?_replicate] at hv
    split at hv
    · rw [hsrc j (by assumption)]; exact hv
    · exact absurd hv (by simp)) (fun j hj => h.some_ (by rw [List.length_replicate] at hj; omega)) (fun j _ => h.free _) (fun v hv => by rw [List.eq_of_mem_replicate hv]; rfl)
  rw [List.length_replicate] at this
  exact this

theorem mul_calls (n : Nat) (hn : n ≤ 256) (w : World) : Calls Try.prog 111 #[.int .u64 1, .int .u64 n] w fun e w' => e = .returned (.tuple #[.int .u64 0, .int .u64 n]) ∧ w' = w := by
  refine (Any.bits_Mul Try.mulLay 1 n (by decide) (by omega) w).mono ?_
  rintro e w' ⟨rfl, rfl⟩
  refine ⟨?_, rfl⟩
  rw [Nat.one_mul, Nat.div_eq_of_lt (by omega), Nat.mod_eq_of_lt (by omega)]
  rfl

set_option maxRecDepth 100000 in
set_option maxHeartbeats 2000000 in
theorem repeat_calls (B : Nat) (cap : Nat) (x : Int) (n : Nat) (hn : 1 ≤ n ∧ n ≤ 256) (w : World) (h : w.cell? ⟨B, 0, none⟩ = some (.int .i64 x)) :
    Calls Try.prog 86 #[.slice (some ⟨B, 0, none⟩) 1 cap, .int .i64 n] w fun e w' => ∃ gd, e = .returned (.slice (some ⟨gd, 0, none⟩) n n) ∧ RepI w w' gd n n x := by
  have hn0 : (0 : Int) ≤ (n : Int) := by omega
  have hbig : (n : Int) ≤ 256 := by omega
  have hone : (1 : Int) ≤ (n : Int) := by omega
  have hw : IntKind.u64.wrap (n : Int) = (n : Int) := Mul64.wrapN n (by omega)
  have hw1 : IntKind.u64.wrap 1 = 1 := by decide
  obtain ⟨i0, hi, hzz⟩ := Option.map_eq_some_iff.1 info3
  simp only [Prod.mk.injEq] at hzz
  obtain ⟨hz0, hz1, hz2⟩ := hzz
  have hmk : ∀ w : World, Sem.run Try.prog (Instr.makeSlice 36 (.int .i64 n) (.int .i64 n)) w = .ok (.slice (some ⟨w.heap.size, 0, none⟩) n n) (w.alloc (.cells (madeCells #[.int .i64 0] n) 3)) := fun w => by
    have := run_make (P := Try.prog) w 36 3 i0 (.int .i64 0) Try.underlying36 hi hz0 .i64 .i64 (n : Int) (n : Int) (by omega) (by omega) (by rw [hz2]; omega) (by omega)
    rw [hz1] at this
    simp only [Int.toNat_natCast, Nat.mul_one] at this
    exact this
  have hstart : RepI w (w.alloc (.cells (madeCells #[.int .i64 0] n) 3)) w.heap.size n 0 x := ⟨Nat.zero_le _, ⟨_, heap_alloc_new _ _, by simp [size_madeCells], fun j hj => by omega⟩, below_alloc (Below.refl _ _) _, Nat.le_refl _⟩
  have hcp := copy_run hstart ⟨B, 0, none⟩ 1 cap n n 1 (by simp [Nat.min_def]; omega) (by omega) (fun j hj => by
    have : j = 0 := by omega
    subst this
    rw [Addr.add_zero', World.cell?_of_block (heap_alloc_old w _ (World.block_lt_of_cell? w _ h))]
    exact h)
  have HS := Aside0.mk (hstart.copy (k := 1) (by omega))
  have HCP := Aside0.mk hcp
  have HN := Aside0.mk hn
  clear hstart hcp hi hz0 hz1 hz2 hn
  clear h
  go_enter Try.func86, Try.ntmps86
  go_wp2_with (go_at_call 111; refine (mul_calls n HN.out.2 _).mono ?_; rintro e w' ⟨rfl, rfl⟩)
  rw [show Sem.run Try.prog _ _ = _ from HCP.out]
  clear HCP hmk
  generalize hW1 : (w'.alloc (.cells (madeCells #[.int .i64 0] n) 3)).setCells w'.heap.size 0 (List.replicate 1 (.int .i64 x)) = w1 at HS ⊢
  clear hW1
  generalize hgd : w'.heap.size = gd at *
  clear hgd
  go_wp2_with fail
  go_loopg [8] n (fun gg s8 wr => ∃ m : Nat, s8 = .int .i64 m ∧ 1 ≤ m ∧ n - m ≤ gg ∧ Aside0 (RepI w' wr gd n m x))
  case atStart => exact ⟨1, rfl, Nat.le_refl _, by omega, HS⟩
  case round =>
    obtain ⟨m, rfl, hm1, hgg, HR⟩ := hrel
    have hmn := HR.out.le
    by_cases hlt : m < n
    · have hlt2 : (m : Int) < (n : Int) := by omega
      have hm63 : (m : Int) ≤ (n : Int) := by omega
      have hcp := fun q => copy_run (HR.out.drawn q) ⟨gd, 0, none⟩ m n (n - m) (n - m) (Nat.min m (n - m)) rfl (by have := Nat.min_le_right m (n - m); show m + Nat.min m (n - m) ≤ n; have : Nat.min m (n - m) ≤ n - m := Nat.min_le_right _ _; omega) (fun j hj => by
        have : Nat.min m (n - m) ≤ m := Nat.min_le_left _ _
        have h2 := (HR.out.drawn q).cell (j := j) (by omega)
        have he : (⟨gd, 0, none⟩ : Addr).add j = ⟨gd, j, none⟩ := by unfold Addr.add; split <;> simp_all
        rw [he]
        exact h2)
      have HCP := Aside0.mk hcp
      clear hcp
      obtain ⟨k, hk⟩ : ∃ k, k = Nat.min m (n - m) := ⟨_, rfl⟩
      have hk1 : 1 ≤ k := by rw [hk]; exact Nat.le_min.2 ⟨hm1, by omega⟩
      have hkm : k ≤ n - m := by rw [hk]; exact Nat.min_le_right _ _
      rw [← hk] at HCP
      clear hk
      go_wp2_with fail
      have c0 : wr.cell? ⟨gd, 0, none⟩ = some (.int .i64 x) := HR.out.cell (by omega)
      have hcp1 : Sem.run Try.prog (Builtin.copy_ #[36, 36] 3 #[.slice (some ⟨gd, m, none⟩) (n - m) (n - m), .slice (some ⟨gd, 0, none⟩) m n]) wr.drew = .ok (.int .i64 (k : Int)) (wr.drew.setCells gd m (List.replicate k (.int .i64 x))) := HCP.out 1
      have HR2 := Aside0.mk ((HR.out.drawn 1).copy (k := k) (by omega))
      have c2 : (wr.drew.setCells gd m (List.replicate k (.int .i64 x))).cell? ⟨gd, 0, none⟩ = some (.int .i64 x) := HR2.out.cell (by omega)
      have hwr : IntKind.i64.wrap ((m : Int) + (k : Int)) = ((m + k : Nat) : Int) := by rw [IntKind.wrap_i64]; omega
      go_region_held3 (fun w' => w'.cell? ⟨gd, 0, none⟩ = some (.int .i64 x)) (first | go_keep | exact c2 | assumption) (fail)
      go_wp2
      go_roundg (n - (m + k))
      case measure => omega
      case rel => exact ⟨m + k, by rw [Int.natCast_add], by omega, Nat.le_refl _, HR2⟩
    · go_wp2_with fail
      go_ret
      have : m = n := by omega
      subst this
      exact ⟨_, rfl, HR.out⟩
end Go.Proofs.Ytgcfcemgeppkmaa.P
