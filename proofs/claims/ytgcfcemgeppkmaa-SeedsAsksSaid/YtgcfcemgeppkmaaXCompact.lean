/-
  slices.Clone at seeds: a new row of the same seeds. slices.Compact at seeds, over a row that is the caller's own.
-/
import Derived.Test.YtgcfcemgeppkmaaXSortOrd
import Derived.Lib.SliceRun
import Derived.Test.YtgcfcemgeppkmaaXRow
import Derived.Deep.LoopGhost
namespace Go.Proofs.Ytgcfcemgeppkmaa.P
open Go.RowKit Go.Proofs.YtgcfcemgeppkmaaW.PrintWords Go.Proofs.YtgcfcemgeppkmaaW.PrintLast Go.Proofs.YtgcfcemgeppkmaaW.PrintMore
set_option linter.unusedVariables false
set_option linter.unusedSimpArgs false

theorem C_none {α : Type} {d : Kd α} {w : World} {xs : List α} (h : d.C w none xs.length xs) : xs = [] := by
  rcases Nat.eq_zero_or_pos xs.length with e | e
  · exact List.length_eq_zero_iff.1 e
  · obtain ⟨ad, he, _⟩ := h.2.2 e
    exact absurd he (by simp)

set_option maxHeartbeats 1000000 in
theorem clone_nil (n c : Nat) (w : World) : Calls Try.prog 73 #[.slice none n c] w fun e w' => e = .returned (.slice none 0 0) ∧ w' = w := by
  have q22 : ∀ (w : World) (a : Option Addr) (n c n' c' : Nat), Sem.run Try.prog (binOp .eql 22 (.slice a n c) (.slice none n' c')) w = .ok (.bool a.isNone) w := fun w a n c n' c' => Lib.run_eql_slice_nil w _ _ a n c n' c' Try.underlying22
  go_enter Try.func73, Try.ntmps73
  go_wp2
  go_ret
  exact ⟨rfl, rfl⟩

set_option maxHeartbeats 1000000 in
theorem clone_some (ad : Addr) (c : Nat) (l : List Seed) (w : World) (hC : Kd.C k25 w (some ad) l.length l) (hl : l.length < 5864062014805) :
    Calls Try.prog 73 #[.slice (some ad) l.length c] w fun e w' => ∃ v, e = .returned v ∧ Kd.R k25 25 w' w.heap.size (fun _ => True) v l ∧ Below w.heap.size w w' := by
  have q22 : ∀ (w : World) (a : Option Addr) (n c n' c' : Nat), Sem.run Try.prog (binOp .eql 22 (.slice a n c) (.slice none n' c')) w = .ok (.bool a.isNone) w := fun w a n c n' c' => Lib.run_eql_slice_nil w _ _ a n c n' c' Try.underlying22
  have HB := Aside0.mk (Below.refl w.heap.size w)
  have HR := Aside0.mk hC
  have HL := Aside0.mk hl
  clear hC hl
  go_enter Try.func73, Try.ntmps73
  go_wp2_with (first | ((with_reducible refine gate_dst (N := 5) rfl ?_); refine Kd.R_lit k25 _ 25 ?hg (N := 5) ?hd (xs := ([] : List Seed)) (inner := []) (ok := fun _ => True) (okp := fun _ => True) ?hr ?hp (fun _ hk => hk) trivial (Below.refl _ _) (Nat.le_refl _) (by simp) ?_; (case hd => rfl); (case hg => rfl); (case hr => first | (go_simp; done) | (go_simp; rfl)); (case hp => exact (Reps.none _ _)); intro v1 w1 ho hb hg_ hnew_; clear hg_ hnew_; have n0_ := Aside0.mk (Kd.R_lower ho (below_size (by repeat (first | (with_reducible first | exact HB.out | apply below_alloc | apply pw_below_drewN | apply below_drew1) | exact HB.out)))); have n1_ := Aside0.mk (below_step (by repeat (first | (with_reducible first | exact HB.out | apply below_alloc | apply pw_below_drewN | apply below_drew1) | exact HB.out)) hb); clear HB; have HO := n0_; have HB := n1_; clear n0_ n1_; clear hb ho) | ((with_reducible refine gate_builtin (b := .append) (xs := #[.tmp 5, .tmp 6]) rfl ?_); at_builtin; refine Kd.R_append_rows k25 (w0 := w) w.heap.size rfl (.tmp 5) (.tmp 6) 22 25 (.agg #[(.int .i64 0), (.int .i64 0), (.int .i64 0)]) 24 rfl Try.underlying22 info25 rfl (by decide) (by omega) v1 ([] : List Seed) l _ _ _ (fun _ => True) (fun _ => False) rfl rfl ?aO ?aR (fun _ _ h => h) (fun _ h => h.elim) ?aF ?aB ?aS ?aL ?_; (case aR => exact Kd.C_below HR.out HB.out); (case aB => exact HB.out); (case aF => exact (fun _ _ => trivial)); (case aO => exact HO.out); (case aS => exact below_size HB.out); (case aL => have := HL.out; simp only [List.length_nil]; omega); intro v2 w2 ho hb hg hat; have n0_ := Aside0.mk (hb); have n1_ := Aside0.mk (ho); clear HB; clear HO; have HB := n0_; have HO := n1_; clear n0_ n1_; clear ho hb hg hat))
  go_ret
  exact ⟨_, rfl, HO.out, HB.out⟩
end Go.Proofs.Ytgcfcemgeppkmaa.P
namespace Go.Proofs.Ytgcfcemgeppkmaa.P
open Go.RowKit Go.Proofs.YtgcfcemgeppkmaaW.PrintWords Go.Proofs.YtgcfcemgeppkmaaW.PrintLast Go.Proofs.YtgcfcemgeppkmaaW.PrintMore
open Go.Lib
set_option linter.unusedVariables false
set_option linter.unusedSimpArgs false
/-- Two seeds are compared field by field (in the print's words). -/
theorem eqSeed (d : Nat) (w : World) (x0 y0 : Int) (x1 y1 : Int) (x2 y2 : Int) :
    (Op.equalIn (d + 2) 25 (.agg #[.int .i64 x0, .int .i64 x1, .int .i64 x2]) (.agg #[.int .i64 y0, .int .i64 y1, .int .i64 y2])).run Try.prog w = .ok (x0 == y0 && (x1 == y1 && (x2 == y2))) w := by
  refine eqA_of Try.underlying25 (by kernel_rfl) ?_
  refine eqf_cons (by rfl) (by go_simp; rfl) (by go_simp; rfl) (by go_simp) ?_
  refine eqf_cons (by rfl) (by go_simp; rfl) (by go_simp; rfl) (by go_simp) ?_
  exact eqf_last (by rfl) (by go_simp; rfl) (by go_simp; rfl) (by go_simp)
attribute [local go_sem high] eqSeed

instance : Inhabited Seed := ⟨z25⟩
instance : DecidableEq Seed := fun a b => if h : a.f0 = b.f0 ∧ a.f1 = b.f1 ∧ a.f2 = b.f2 then isTrue (by cases a; cases b; simp at h; obtain ⟨rfl, rfl, rfl⟩ := h; rfl) else isFalse (fun e => h (by subst e; exact ⟨rfl, rfl, rfl⟩))
abbrev SeedRow (B cap : Nat) (d : Array Seed) (w : World) : Prop := RowIn encS 3 25 B cap d w
theorem encS_len (x : Seed) : (encS x).length = 3 := rfl
theorem seed_beq (x y : Seed) : (x.f0 == y.f0 && (x.f1 == y.f1 && (x.f2 == y.f2))) = decide (x = y) := by
  by_cases h : x = y
  · subst h; simp
  · rw [decide_eq_false h]
    by_cases h0 : x.f0 = y.f0
    · by_cases h1 : x.f1 = y.f1
      · have h2 : ¬ x.f2 = y.f2 := fun h2 => h (by cases x; cases y; simp_all)
        simp [h2]
      · simp [h1]
    · simp [h0]
theorem SeedRow.cells {B cap : Nat} {d : Array Seed} {w : World} (h : SeedRow B cap d w) {j : Nat} (hj : j < d.size) :
    w.cell? ⟨B, j * 3, none⟩ = some (.int .i64 (d[j]!).f0) ∧ w.cell? ⟨B, j * 3 + 1, none⟩ = some (.int .i64 (d[j]!).f1) ∧ w.cell? ⟨B, j * 3 + 2, none⟩ = some (.int .i64 (d[j]!).f2) :=
  ⟨RowIn.cell h hj (c := 0) (by decide) rfl, RowIn.cell h hj (c := 1) (by decide) rfl, RowIn.cell h hj (c := 2) (by decide) rfl⟩

/-- A row of zeros. -/
def zerosS : Nat → List Value
  | 0 => []
  | n + 1 => encS z25 ++ zerosS n
theorem zerosS_len (n : Nat) : (zerosS n).length = n * 3 := by
  induction n with
  | zero => rfl
  | succ n ih => simp [zerosS, ih, encS]; omega
theorem zerosS_get (n : Nat) : ∀ i, i < n * 3 → (zerosS n)[i]? = some (.int .i64 0) := by
  induction n with
  | zero => intro i hi; omega
  | succ n ih =>
    intro i hi
    unfold zerosS
    rcases Nat.lt_or_ge i 3 with h | h
    · match i, h with
      | 0, _ => rfl
      | 1, _ => rfl
      | 2, _ => rfl
    · rw [List.getElem?_append_right (by simpa [encS] using h)]
      exact ih (i - 3) (by omega)
theorem clear_rows (B kk n c : Nat) (w : World) (hn : 0 < n) (hc : ∀ j, j < n * 3 → (w.cell? ⟨B, kk * 3 + j, none⟩).isSome = true) (hf : ∀ j, j < n * 3 → w.frozen? ⟨B, kk * 3 + j, none⟩ = false) (ty : TypeId) :
    (Builtin.clear_ #[22] ty #[.slice (some ⟨B, kk * 3, none⟩) n c]).run Try.prog w = .ok (.tuple #[]) (w.setCells B (kk * 3) (zerosS n)) := by
  have hz : (Builtin.zeroCells (Value.agg #[(.int .i64 0), (.int .i64 0), (.int .i64 0)]).cells n).toList = zerosS n := by
    apply List.ext_getElem?
    intro i
    have hsz : (Value.agg #[(.int .i64 0), (.int .i64 0), (.int .i64 0)]).cells = #[.int .i64 0, .int .i64 0, .int .i64 0] := rfl
    rw [hsz]
    unfold Builtin.zeroCells
    rcases Nat.lt_or_ge i (n * 3) with h | h
    · rw [zerosS_get n i h]
      simp [h]
      have : i % 3 < 3 := Nat.mod_lt _ (by decide)
      match hm : i % 3, this with
      | 0, _ => rfl
      | 1, _ => rfl
      | 2, _ => rfl
    · rw [List.getElem?_eq_none (l := zerosS n) (by rw [zerosS_len]; omega), List.getElem?_eq_none (by simp; omega)]
  have hst := run_storeCells_cells (P := Try.prog) B (kk * 3) (zerosS n) 0 w (by simpa [zerosS_len] using hc) (by simpa [zerosS_len] using hf) (by
    intro v hv
    obtain ⟨i, hi, he⟩ := List.getElem_of_mem hv
    have := zerosS_get n i (by rw [← zerosS_len]; exact hi)
    rw [List.getElem?_eq_getElem hi, he] at this
    rw [Option.some.inj this]; rfl)
  simp only [Nat.add_zero] at hst
  have hu : ∀ w, (underlying 22).run Try.prog w = .ok (TypeDesc.slice 25) w := run_underlying Try.underlying22
  have hv : ∀ w, (zeroValue 25).run Try.prog w = .ok (Value.agg #[(.int .i64 0), (.int .i64 0), (.int .i64 0)]) w := fun w => by kernel_rfl
  obtain ⟨m, rfl⟩ : ∃ m, n = m + 1 := ⟨n - 1, by omega⟩
  simp [Builtin.clear_, hu, hv, hz, hst]

set_option maxHeartbeats 4000000 in
set_option maxRecDepth 100000 in
theorem compact_calls (B cap : Nat) (d : Array Seed) (w : World) (hR : SeedRow B cap d w) (hcap : cap ≤ 9223372036854775807) :
    Calls Try.prog 76 #[.slice (some ⟨B, 0, none⟩) d.size cap] w fun e w' => e = .returned (.slice (some ⟨B, 0, none⟩) (compactUpTo d d.size).length cap) ∧ SeedRow B cap (compactUpTo d d.size).toArray w' ∧ w.grownBy w' (some B) := by
  have hdc : d.size ≤ cap := by obtain ⟨_, _, _, h, _⟩ := hR; exact h
  have hu25 := Try.underlying25
  have same : ∀ q, (∀ j, j < d.size → keeps d j = true) → (compactUpTo d d.size).length = d.size ∧ SeedRow B cap (compactUpTo d d.size).toArray (w.drewN q) ∧ w.grownBy (w.drewN q) (some B) := by
    intro q hall
    rw [compactUpTo_all d _ hall, range_map_get]
    exact ⟨by simp, by simpa using RowIn.drewN hR q, grownBy_drewN (grownBy_refl w _) q⟩
  have HS := Aside0.mk same
  have HR := Aside0.mk hR
  have HD := Aside0.mk hdc
  clear same hR
  by_cases h2 : d.size < 2
  · go_enter Try.func76, Try.ntmps76
    go_wp2
    go_ret
    obtain ⟨e1, e2, e3⟩ := HS.out 0 (fun j hj => keeps_lt_one d j (by omega))
    exact ⟨by rw [e1]; rfl, e2, e3⟩
  · go_enter Try.func76, Try.ntmps76
    go_wp2
    go_loopg [3] d.size (fun g s3 wr => ∃ k : Nat, 1 ≤ k ∧ k ≤ d.size ∧ d.size - k ≤ g ∧ s3 = .int .i64 k ∧ Aside0 (∃ q, wr = w.drewN q) ∧ Aside0 (∀ j, j < k → keeps d j = true))
    case atStart => exact ⟨1, Nat.le_refl _, by omega, by omega, rfl, ⟨0, rfl⟩, ⟨keeps_lt_one d⟩⟩
    case round =>
      obtain ⟨k, hk1, hk, hg, rfl, HW, HA⟩ := hrel
      have HRw : Aside0 (SeedRow B cap d wr) := ⟨by obtain ⟨q, e⟩ := HW.out; rw [e]; exact RowIn.drewN HR.out q⟩
      by_cases hlt : k < d.size
      · obtain ⟨c0, c1, c2⟩ := SeedRow.cells HRw.out hlt
        obtain ⟨b0, b1, b2⟩ := SeedRow.cells HRw.out (show k - 1 < d.size by omega)
        generalize hx : d[k]! = x at c0 c1 c2
        generalize hy : d[k - 1]! = y at b0 b1 b2
        have HX := Aside0.mk hx
        have HY := Aside0.mk hy
        clear hx hy
        by_cases hdup : x = y
        · have hd := (seed_beq x y).trans (decide_eq_true hdup)
          go_wp2_with fail
          go_region
          go_wp2
          have HW1 := Aside0.mk (show SeedRow B cap d wr.drew from HRw.out)
          have HG1 := Aside0.mk (show w.grownBy wr.drew (some B) from by obtain ⟨q, e⟩ := HW.out; rw [e]; exact grownBy_drewN (grownBy_refl w _) (q + 1))
          have HI1 := Aside0.mk (CompInv.start HA.out (keeps_neg (show 0 < k by omega) (by rw [HX.out, HY.out, hdup])))
          clear c0 c1 c2 b0 b1 b2 hd hdup HX HY HA HW HRw
          generalize wr.drew = w1 at *
          go_loopg [3, 5] d.size (fun g s3 s5 wv => ∃ (kk k2 : Nat) (dk : Array Seed), s3 = .int .i64 kk ∧ s5 = .int .i64 k2 ∧ 1 ≤ k2 ∧ k + k2 ≤ d.size ∧ d.size - (k + k2) ≤ g ∧ Aside0 (SeedRow B cap dk wv) ∧ Aside0 (w.grownBy wv (some B)) ∧ Aside0 (CompInv d (k + k2) kk dk))
          case atStart => exact ⟨k, 1, d, rfl, rfl, Nat.le_refl _, by omega, by omega, HW1, HG1, HI1⟩
          case round =>
            obtain ⟨kk, k2, dk, rfl, rfl, h1, hle, hg2, HRv, HGv, HI⟩ := hrel
            have hkk := HI.out.lt
            have hds := HI.out.size
            by_cases hlt2 : k + k2 < d.size
            · obtain ⟨c0, c1, c2⟩ := SeedRow.cells HRv.out (show k + k2 < dk.size by omega)
              obtain ⟨b0, b1, b2⟩ := SeedRow.cells HRv.out (show k + (k2 - 1) < dk.size by omega)
              rw [Nat.add_mul, HI.out.high (k + k2) (by omega)] at c0 c1 c2
              rw [Nat.add_mul, HI.out.high (k + (k2 - 1)) (by omega)] at b0 b1 b2
              obtain ⟨a0, a1, a2⟩ := SeedRow.cells HRv.out (show kk < dk.size by omega)
              have f0 := RowIn.free HRv.out (kk * 3)
              have f1 := RowIn.free HRv.out (kk * 3 + 1)
              have f2 := RowIn.free HRv.out (kk * 3 + 2)
              generalize hx : d[k + k2]! = x at c0 c1 c2
              generalize hy : d[k + (k2 - 1)]! = y at b0 b1 b2
              generalize dk[kk]! = z at a0 a1 a2
              have HX := Aside0.mk hx
              have HY := Aside0.mk (show d[k + k2 - 1]! = y by rw [show k + k2 - 1 = k + (k2 - 1) by omega]; exact hy)
              have HK := Aside0.mk hkk
              have HD2 := Aside0.mk hds
              clear hx hy hds
              by_cases hdup : x = y
              · have hd := (seed_beq x y).trans (decide_eq_true hdup)
                have HE := Aside0.mk hdup
                clear hdup
                go_wp2_with fail
                go_region
                go_wp2
                go_roundg (d.size - (k + (k2 + 1)))
                case measure => omega
                case rel => exact ⟨kk, k2 + 1, dk, rfl, by go_num, by omega, by omega, Nat.le_refl _, HRv, ⟨grownBy_drewN HGv.out 1⟩, ⟨HI.out.skip (keeps_neg (by omega) (by rw [HX.out, HY.out, HE.out]))⟩⟩
              · have hd := (seed_beq x y).trans (decide_eq_false hdup)
                have HE := Aside0.mk hdup
                clear hdup
                go_wp2_with fail
                go_region
                go_wp2
                go_roundg (d.size - (k + (k2 + 1)))
                case measure => omega
                case rel =>
                  refine ⟨kk + 1, k2 + 1, dk.setIfInBounds kk x, by go_num, by go_num, by omega, by omega, Nat.le_refl _, ⟨?_⟩, ⟨?_⟩, ⟨?_⟩⟩
                  · exact RowIn.store encS_len HRv.out (by have := HD2.out; have := HK.out; omega) x
                  · exact grownBy_drewN (grownBy_trans HGv.out (setCells_grown B (encS x) (kk * 3) wr)) 1
                  · have := HI.out.keep hlt2 (keeps_pos (by rw [HX.out, HY.out]; exact HE.out))
                    rwa [HX.out] at this
            · have hend : k + k2 = d.size := by omega
              have hcl := clear_rows B kk (d.size - kk) (cap - kk) wr (by omega) (fun j hj => RowIn.some_cell HRv.out (by have : (kk + (d.size - kk)) * 3 ≤ cap * 3 := Nat.mul_le_mul_right _ (by omega); rw [Nat.add_mul] at this; omega)) (fun j hj => RowIn.free HRv.out _)
              have HK := Aside0.mk hkk
              have HD2 := Aside0.mk hds
              have hkd : kk < d.size := by omega
              have hend' := Aside0.mk hend
              clear hds hkk hend
              go_wp2
              go_ret
              have hI := HI.out
              rw [hend'.out] at hI
              have hlow : (dk.extract 0 kk) = (compactUpTo d d.size).toArray := by
                apply Array.ext
                · simp [hI.len]; have := HD2.out; omega
                · intro j hj1 hj2
                  have hj : j < kk := by simpa using (by simp at hj1; omega : j < kk)
                  have h3 := hI.low j hj
                  rw [List.getElem?_eq_getElem (by rw [hI.len]; exact hj)] at h3
                  have h4 := Option.some.inj h3
                  rw [getElem!_pos dk j (by have := HD2.out; omega)] at h4
                  simp [h4]
              refine ⟨by rw [hI.len]; rfl, ?_, grownBy_trans HGv.out (setCells_grown B _ _ _)⟩
              rw [← hlow]
              exact RowIn.cut HRv.out (by have := HD2.out; omega) _
        · have hd := (seed_beq x y).trans (decide_eq_false hdup)
          have HE := Aside0.mk hdup
          clear hdup
          go_wp2_with fail
          go_region
          go_wp2
          go_roundg (d.size - (k + 1))
          case measure => omega
          case rel =>
            refine ⟨k + 1, by omega, by omega, Nat.le_refl _, by go_num, ⟨?_⟩, ⟨fun j hj => ?_⟩⟩
            · obtain ⟨q, e⟩ := HW.out; exact ⟨q + 1, by rw [e]; rfl⟩
            · by_cases e : j = k
              · subst e
                exact keeps_pos (by rw [HX.out, HY.out]; exact HE.out)
              · exact HA.out j (by omega)
      · have hkd : k = d.size := by omega
        have HKD := Aside0.mk hkd
        have hkl : ¬ (k : Int) < (d.size : Int) := by omega
        clear hkd
        go_wp2
        go_ret
        obtain ⟨q, e⟩ := HW.out
        obtain ⟨e1, e2, e3⟩ := HS.out q (by rw [← HKD.out]; exact HA.out)
        rw [e]
        exact ⟨by rw [e1]; rfl, e2, e3⟩
end Go.Proofs.Ytgcfcemgeppkmaa.P
