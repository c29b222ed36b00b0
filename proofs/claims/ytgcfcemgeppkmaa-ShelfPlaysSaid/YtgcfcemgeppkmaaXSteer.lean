/-
  PLAIN: directions; a way by them. steer: the helm in memory, its methods; Field. steer.Field. steer.Walk. herdsmanlaw10.told.
-/
import Derived.Test.YtgcfcemgeppkmaaXLawS
import Derived.Test.YtgcfcemgeppkmaaPx10
import Derived.Deep.QuietTactic
import Derived.BigQuiet
import Derived.Deep.DeepCutAuto
import Derived.Deep.LoopGhost
import Derived.Deep.CutBlock
import Derived.Deep.RegionHeld3
import Derived.Test.YtgcfcemgeppkmaaPx13
import Derived.Deep.RegionLaw
import Derived.Test.YtgcfcemgeppkmaaPx2
namespace Go.Proofs.Ytgcfcemgeppkmaa.P
open Go.RowKit Go.Proofs.YtgcfcemgeppkmaaW.PrintWords Go.Proofs.YtgcfcemgeppkmaaW.PrintLast Go.Proofs.YtgcfcemgeppkmaaW.PrintMore
open Go.Proofs.Ytgcfcemgeppkmaa.Dist
set_option linter.unusedVariables false
set_option linter.unusedSimpArgs false
/-- One seed more, for the least key at a side of a cell. -/
def bestStep (i s : Int) (b : Int × Bool) (x : Seed) : Int × Bool := if x.f0 = i ∧ x.f1 = s ∧ (b.2 = false ∨ x.f2 < b.1) then (x.f2, true) else b
def bestS (l : List Seed) (i s : Int) : Int := (l.foldl (bestStep i s) (INF, false)).1
/-- A cell's distance comes about by a side. -/
def ByS (W H : Int) (C : List Int) (l : List Seed) (D : List Int) (i s : Int) : Prop := (OutE W H i s ∧ bestS l i s = rd D i) ∨ (¬ OutE W H i s ∧ rd C (nbS W i s) ≠ 255 ∧ rd C (nbS W i s) + rd D (nbS W i s) = rd D i)
instance (W H : Int) (C : List Int) (l : List Seed) (D : List Int) (i s : Int) : Decidable (ByS W H C l D i s) := inferInstanceAs (Decidable (_ ∨ _))
def dirS (W H : Int) (C : List Int) (l : List Seed) (D : List Int) (i : Int) : Int :=
  if rd D i = INF then 5 else if bestS l i 4 = rd D i then 4 else if ByS W H C l D i 0 then 0 else if ByS W H C l D i 1 then 1 else if ByS W H C l D i 2 then 2 else if ByS W H C l D i 3 then 3 else 5
/-- What the helm must be. -/
def HelmOk (W H : Int) (C : List Int) (l : List Seed) (D : List Int) : Prop :=
  ((1 ≤ W ∧ W ≤ 16) ∧ (1 ≤ H ∧ H ≤ 16) ∧ (C.length : Int) = W * H ∧ D.length = C.length) ∧ (∀ x ∈ C, 0 ≤ x ∧ x ≤ 255) ∧ (∀ x ∈ D, 0 ≤ x ∧ x ≤ INF) ∧ l.length ≤ 1000000
instance (W H : Int) (C : List Int) (l : List Seed) (D : List Int) : Decidable (HelmOk W H C l D) := inferInstanceAs (Decidable (_ ∧ _))
noncomputable def dirsOf (W H : Int) (C : List Int) (l : List Seed) : List Int := (List.range C.length).map fun i : Nat => dirS W H C l (distOf W C l) (i : Int)
theorem dirs_len (W H : Int) (C : List Int) (l : List Seed) : (dirsOf W H C l).length = C.length := by unfold dirsOf; simp
theorem dirs_at (W H : Int) (C : List Int) (l : List Seed) {i : Nat} (hi : i < C.length) : rd (dirsOf W H C l) i = dirS W H C l (distOf W C l) i := by
  rw [rd_get _ (by rw [dirs_len]; exact hi)]
  unfold dirsOf
  simp
/-- The local beside one; -1. -/
def nearS (W H c s : Int) : Int := if (0 ≤ s ∧ s ≤ 3) ∧ ¬ OutE W H c s then nbS W c s else -1
open Classical in
noncomputable def fieldF (W H : Int) (C : List Int) (l : List Seed) : Option (List Int × List Int × Int) :=
  if SeedsOk W H C l then (if (∀ x ∈ C, 0 ≤ x ∧ x ≤ 255) ∧ l.length ≤ 1000000 then some (distOf W C l, dirsOf W H C l, 0) else none) else some ([], [], 1)
end Go.Proofs.Ytgcfcemgeppkmaa.P
namespace Go.Proofs.Ytgcfcemgeppkmaa.P
open Go.RowKit Go.Proofs.YtgcfcemgeppkmaaW.PrintWords Go.Proofs.YtgcfcemgeppkmaaW.PrintLast Go.Proofs.YtgcfcemgeppkmaaW.PrintMore
open Go.Proofs.Ytgcfcemgeppkmaa.Dist
set_option linter.unusedVariables false
set_option linter.unusedSimpArgs false
structure HelmM (w : World) (g : Nat) (W H : Int) (AT : Option Addr) (cT : Nat) (C : List Int) (AS : Option Addr) (cS : Nat) (l : List Seed) (AD : Option Addr) (cD : Nat) (D : List Int) : Prop where
  blk : w.heap[g]? = some (.cells #[.int .i64 W, .int .i64 H, .slice AT C.length cT, .slice AS l.length cS, .slice AD D.length cD] 107 (0, 0))
  tile : Kd.C (Kd.int .u8) w AT C.length C
  seeds : Kd.C k25 w AS l.length l
  seedsC : l.length ≤ cS
  dist : Kd.C (Kd.int .i64) w AD D.length D
variable {w w' : World} {g : Nat} {W H : Int} {AT : Option Addr} {cT : Nat} {C : List Int} {AS : Option Addr} {cS : Nat} {l : List Seed} {AD : Option Addr} {cD : Nat} {D : List Int}
theorem HelmM.below (h : HelmM w g W H AT cT C AS cS l AD cD D) (hb : Below w.heap.size w w') : HelmM w' g W H AT cT C AS cS l AD cD D := ⟨blk_step h.blk hb, Kd.C_below h.tile hb, Kd.C_below h.seeds hb, h.seedsC, Kd.C_below h.dist hb⟩
theorem HelmM.cells (h : HelmM w g W H AT cT C AS cS l AD cD D) : w.cell? ⟨g, 0, none⟩ = some (.int .i64 W) ∧ w.cell? ⟨g, 1, none⟩ = some (.int .i64 H) ∧ w.cell? ⟨g, 2, none⟩ = some (.slice AT C.length cT) ∧ w.cell? ⟨g, 3, none⟩ = some (.slice AS l.length cS) ∧ w.cell? ⟨g, 4, none⟩ = some (.slice AD D.length cD) :=
  ⟨cell_blk h.blk rfl, cell_blk h.blk rfl, cell_blk h.blk rfl, cell_blk h.blk rfl, cell_blk h.blk rfl⟩
theorem HelmM.distAt (h : HelmM w g W H AT cT C AS cS l AD cD D) {i : Nat} (hi : i < D.length) : ∃ ad, AD = some ad ∧ w.cell? (ad.add i) = some (.int .i64 (rd D i)) := by
  have := Kd.at_int h.dist (i : Int) (by omega) (by omega)
  simpa using this
theorem HelmM.tileAt (h : HelmM w g W H AT cT C AS cS l AD cD D) {i : Nat} (hi : i < C.length) : ∃ ad, AT = some ad ∧ w.cell? (ad.add i) = some (.int .u8 (rd C i)) := by
  have := Kd.at_int h.tile (i : Int) (by omega) (by omega)
  simpa using this
theorem nearS_in {i s : Int} (hs : 0 ≤ s ∧ s ≤ 3) (ho : ¬ OutE W H i s) : nearS W H i s = nbS W i s := by unfold nearS; rw [if_pos ⟨hs, ho⟩]
theorem nearS_out {i s : Int} (h : OutE W H i s ∨ s < 0 ∨ 3 < s) : nearS W H i s = -1 := by
  unfold nearS
  rw [if_neg]
  rintro ⟨h1, h2⟩
  rcases h with h | h
  · exact h2 h
  · omega
set_option maxHeartbeats 1000000 in
theorem near_calls (h : HelmM w g W H AT cT C AS cS l AD cD D) (hW : 1 ≤ W ∧ W ≤ 16) (hH : 1 ≤ H ∧ H ≤ 16) (i : Nat) (hi : (i : Int) < W * H) (s : Int) :
    Calls Try.prog 93 #[.pointer (some ⟨g, 0, none⟩), .int .i64 i, .int .i64 s] w fun e w' => e = .returned (.int .i64 (nearS W H i s)) ∧ Drawn0 w w' := by
  obtain ⟨c0, c1, c2, c3, c4⟩ := h.cells
  have hWH := mul_small hW hH
  have hq0 : 0 ≤ (i : Int) / W := Int.ediv_nonneg (by omega) (by omega)
  have hq255 : (i : Int) / W ≤ (i : Int) := Int.ediv_le_self W (by omega)
  have hr0 : 0 ≤ (i : Int) % W := Int.emod_nonneg _ (by omega)
  have hrW : (i : Int) % W < W := Int.emod_lt_of_pos _ (by omega)
  have hdm := Int.mul_ediv_add_emod (i : Int) W
  have hq1 : 0 < (i : Int) / W → W ≤ (i : Int) := fun h0 => by
    have := Int.mul_le_mul_of_nonneg_left (c := W) (show 1 ≤ (i : Int) / W by omega) (by omega)
    omega
  have hi256 : (i : Int) < 256 := by omega
  have hqH : (i : Int) / W < H := by
    rcases Int.lt_or_le ((i : Int) / W) H with h2 | h2
    · exact h2
    · have := Int.mul_le_mul_of_nonneg_left (c := W) h2 (by omega)
      omega
  have HQ1 := Aside0.mk hq1
  clear h hq1 hdm hi hWH c2 c3 c4
  go_enter Try.func93, Try.ntmps93
  go_wp2_with fail
  go_quiet (fail)
  generalize hw0 : w.drewN nq = w0 at *
  have d0 : w0.cell? ⟨g, 0, none⟩ = some (.int .i64 W) := by rw [← hw0, World.cell?_drewN]; exact c0
  have d1 : w0.cell? ⟨g, 1, none⟩ = some (.int .i64 H) := by rw [← hw0, World.cell?_drewN]; exact c1
  have hD : Drawn0 w w0 := by rw [← hw0]; exact ⟨⟨nq, rfl⟩⟩
  have HD := Aside0.mk hD
  clear hw0 c0 c1 hD
  by_cases s0 : s = 0
  · subst s0
    by_cases hc : 0 < (i : Int) / W
    · have hge := HQ1.out hc
      have HV : Aside0 (nearS W H i 0 = (i : Int) - W) := ⟨(nearS_in (by omega) (by unfold OutE; omega)).trans (by simp [nbS])⟩
      go_wp2
      go_ret
      exact ⟨by rw [HV.out]; rfl, HD.out⟩
    · have HV : Aside0 (nearS W H i 0 = -1) := ⟨nearS_out (.inl (by unfold OutE; omega))⟩
      go_wp2
      go_ret
      exact ⟨by rw [HV.out]; rfl, HD.out⟩
  have b0 : (s == 0) = false := beq_eq_false_iff_ne.2 s0
  by_cases s1 : s = 1
  · subst s1
    by_cases hc : (i : Int) % W < W - 1
    · have HV : Aside0 (nearS W H i 1 = (i : Int) + 1) := ⟨(nearS_in (by omega) (by unfold OutE; omega)).trans (by simp [nbS])⟩
      go_wp2
      go_ret
      exact ⟨by rw [HV.out]; rfl, HD.out⟩
    · have HV : Aside0 (nearS W H i 1 = -1) := ⟨nearS_out (.inl (by unfold OutE; omega))⟩
      go_wp2
      go_ret
      exact ⟨by rw [HV.out]; rfl, HD.out⟩
  have b1 : (s == 1) = false := beq_eq_false_iff_ne.2 s1
  by_cases s2 : s = 2
  · subst s2
    by_cases hc : (i : Int) / W < H - 1
    · have HV : Aside0 (nearS W H i 2 = (i : Int) + W) := ⟨(nearS_in (by omega) (by unfold OutE; omega)).trans (by simp [nbS])⟩
      go_wp2
      go_ret
      exact ⟨by rw [HV.out]; rfl, HD.out⟩
    · have HV : Aside0 (nearS W H i 2 = -1) := ⟨nearS_out (.inl (by unfold OutE; omega))⟩
      go_wp2
      go_ret
      exact ⟨by rw [HV.out]; rfl, HD.out⟩
  have b2 : (s == 2) = false := beq_eq_false_iff_ne.2 s2
  by_cases s3 : s = 3
  · subst s3
    by_cases hc : 0 < (i : Int) % W
    · have HV : Aside0 (nearS W H i 3 = (i : Int) - 1) := ⟨(nearS_in (by omega) (by unfold OutE; omega)).trans (by simp [nbS])⟩
      go_wp2
      go_ret
      exact ⟨by rw [HV.out]; rfl, HD.out⟩
    · have HV : Aside0 (nearS W H i 3 = -1) := ⟨nearS_out (.inl (by unfold OutE; omega))⟩
      go_wp2
      go_ret
      exact ⟨by rw [HV.out]; rfl, HD.out⟩
  have b3 : (s == 3) = false := beq_eq_false_iff_ne.2 s3
  have HV : Aside0 (nearS W H i s = -1) := ⟨nearS_out (by omega)⟩
  clear s0 s1 s2 s3
  go_wp2
  go_ret
  exact ⟨by rw [HV.out]; rfl, HD.out⟩
theorem best_l0 (l : List Seed) (i s : Int) (hl : l.length ≤ 1000000) : ∀ (d j k : Nat) (b : Int × Bool), j + d = l.length → d < k → seeds_Best.l0 k i s b.1 b.2 l (l.length : Int) (j : Int) = some ((l.drop j).foldl (bestStep i s) b).1 := by
  intro d
  induction d with
  | zero =>
    intro j k b hj hk
    obtain ⟨k, rfl⟩ : ∃ m, k = m + 1 := ⟨k - 1, by omega⟩
    rw [seeds_Best.l0, if_neg (by omega), List.drop_eq_nil_of_le (by omega)]
    rfl
  | succ d ih =>
    intro j k b hj hk
    obtain ⟨k, rfl⟩ : ∃ m, k = m + 1 := ⟨k - 1, by omega⟩
    have hjl : j < l.length := by omega
    have hn := fun b => ih (j + 1) k b (by omega) (by omega)
    rw [seeds_Best.l0, if_pos (by omega), if_pos (by omega), if_pos (by omega), rdT_get l hjl, w64 (n := (j : Int) + 1) (by omega) (by omega), List.drop_eq_getElem_cons hjl, List.foldl_cons]
    generalize l[j] = x
    by_cases h0 : x.f0 = i
    · rw [if_pos h0]
      by_cases h1 : x.f1 = s
      · rw [if_pos h1]
        by_cases hb : b.2 = true
        · rw [if_pos hb]
          by_cases h2 : x.f2 < b.1
          · rw [if_pos h2, show bestStep i s b x = (x.f2, true) by unfold bestStep; rw [if_pos ⟨h0, h1, .inr h2⟩]]
            exact hn (x.f2, true)
          · rw [if_neg h2, show bestStep i s b x = b by unfold bestStep; rw [if_neg (by rintro ⟨_, _, h | h⟩; rw [hb] at h; simp at h; exact h2 h)]]
            exact hn b
        · rw [if_neg hb, show bestStep i s b x = (x.f2, true) by unfold bestStep; rw [if_pos ⟨h0, h1, .inl (by simpa using hb)⟩]]
          exact hn (x.f2, true)
      · rw [if_neg h1, show bestStep i s b x = b by unfold bestStep; rw [if_neg (by rintro ⟨_, h, _⟩; exact h1 h)]]
        exact hn b
    · rw [if_neg h0, show bestStep i s b x = b by unfold bestStep; rw [if_neg (by rintro ⟨h, _⟩; exact h0 h)]]
      exact hn b
theorem best_some (l : List Seed) (i s : Int) (hl : l.length ≤ 1000000) : seeds_Best.f (l.length + 1) l i s = some (bestS l i s) := by
  have := best_l0 l i s hl l.length 0 (l.length + 1) (INF, false) (by omega) (by omega)
  exact this
set_option maxRecDepth 100000 in
set_option maxHeartbeats 2000000 in
theorem by_val (h : HelmM w g W H AT cT C AS cS l AD cD D) (hok : HelmOk W H C l D) (i : Nat) (hi : i < C.length) (s : Int) (hs : 0 ≤ s ∧ s ≤ 3) (b : Bool) (hv : decide (ByS W H C l D i s) = b) :
    Calls Try.prog 142 #[.pointer (some ⟨g, 0, none⟩), .int .i64 i, .int .i64 s] w fun e w' => e = .returned (.bool b) ∧ Below w.heap.size w w' := by
  obtain ⟨⟨hW, hH, hC, hDl⟩, hbC, hbD, hll⟩ := hok
  have HM := Aside0.mk h
  have hnr := near_calls h hW hH i (by omega) s
  have hdi : i < D.length := by omega
  by_cases ho : OutE W H i s
  · rw [nearS_out (.inl ho)] at hnr
    have HN := Aside0.mk hnr
    have HB := Aside0.mk (best_some l i s hll)
    obtain ⟨ad, hAD, di⟩ := h.distAt hdi
    obtain ⟨dd, hdd⟩ : ∃ v, v = rd D i := ⟨_, rfl⟩
    rw [← hdd] at di
    have HV : Aside0 ((bestS l i s == dd) = b) := ⟨by
      rw [← hv, hdd, show (bestS l i s == rd D (i : Int)) = decide (bestS l i s = rd D (i : Int)) from rfl]
      refine decide_eq_decide.2 ⟨fun e => .inl ⟨ho, e⟩, fun e => ?_⟩
      rcases e with ⟨_, e⟩ | ⟨e, _⟩
      · exact e
      · exact absurd ho e⟩
    obtain ⟨c0, c1, c2, c3, c4⟩ := h.cells
    subst hAD
    have hil : (i : Int) < (D.length : Int) := by omega
    clear h hnr ho hv hdd hbC hbD hC hDl hi hdi c0 c1 c2 hW hH hs
    go_enter Try.func142, Try.ntmps142
    go_wp2_with (go_at_call 93; refine HN.out.mono ?_; rintro e w1 ⟨rfl, hd⟩; have p3 := pw_cell_below hd.below c3; have p4 := pw_cell_below hd.below c4; have pd := pw_cell_below hd.below di; have HB1 := Aside0.mk hd.below; clear hd c3 c4 di)
    go_region_held3 (fun w' => w'.cell? ⟨g, 3, none⟩ = some (.slice AS l.length cS) ∧ w'.cell? ⟨g, 4, none⟩ = some (.slice (some ad) D.length cD) ∧ w'.cell? (ad.add i) = some (.int .i64 dd))
      (first | exact ⟨p3, p4, pd⟩ | exact ⟨q3, q4, qd⟩ | go_keep)
      (first | (go_at_call 33; refine (seeds_Best.calls _ AS cS l i s (bestS l i s) _ (Kd.C_below HM.out.seeds (below_drew1 HB1.out)) HM.out.seedsC HB.out).mono ?_; rintro e w2 ⟨rfl, hb2⟩; have q3 := pw_cell_below hb2 (a := ⟨g, 3, none⟩) (v := .slice AS l.length cS) p3; have q4 := pw_cell_below hb2 (a := ⟨g, 4, none⟩) (v := .slice (some ad) D.length cD) p4; have qd := pw_cell_below hb2 (a := ad.add i) (v := .int .i64 dd) pd; have HB2 := Aside0.mk (below_step (below_drew1 HB1.out) hb2); clear hb2))
    all_goals
      go_wp2
      go_ret
      exact ⟨by rw [← HV.out]; rfl, HB2.out⟩
  · obtain ⟨b0, b1, _⟩ := nb_in hW hH hC (show (0 : Int) ≤ (i : Int) by omega) (by omega) hs ho
    obtain ⟨j, hj⟩ : ∃ j : Nat, nbS W i s = (j : Int) := ⟨(nbS W i s).toNat, by omega⟩
    have hjl : j < C.length := by omega
    have hdj : j < D.length := by omega
    rw [nearS_in hs ho, hj] at hnr
    have HN := Aside0.mk hnr
    obtain ⟨ad, hAD, di⟩ := h.distAt hdi
    obtain ⟨ad', hAD', dj⟩ := h.distAt hdj
    obtain ⟨at_, hAT, tj⟩ := h.tileAt hjl
    have hcr := hbC C[j] (List.getElem_mem _)
    rw [← rd_get C hjl] at hcr
    have hdr := hbD D[j] (List.getElem_mem _)
    rw [← rd_get D hdj] at hdr
    unfold INF at hdr
    obtain ⟨dd, hdd⟩ : ∃ v, v = rd D i := ⟨_, rfl⟩
    rw [← hdd] at di
    obtain ⟨dv, hdv⟩ : ∃ v, v = rd D j := ⟨_, rfl⟩
    rw [← hdv] at dj hdr
    obtain ⟨cv, hcv⟩ : ∃ v, v = rd C j := ⟨_, rfl⟩
    rw [← hcv] at tj hcr
    have HV : Aside0 (b = decide (cv ≠ 255 ∧ cv + dv = dd)) := ⟨by
      rw [← hv, hdd, hdv, hcv]
      refine decide_eq_decide.2 ⟨fun e => ?_, fun e => .inr ⟨ho, by rw [hj]; exact e.1, by rw [hj]; exact e.2⟩⟩
      rcases e with ⟨e, _⟩ | ⟨_, e1, e2⟩
      · exact absurd e ho
      · rw [hj] at e1 e2; exact ⟨e1, e2⟩⟩
    obtain ⟨c0, c1, c2, c3, c4⟩ := h.cells
    subst hAD
    obtain rfl := Option.some.inj hAD'
    subst hAT
    have hil : (i : Int) < (D.length : Int) := by omega
    have hjl1 : (j : Int) < (D.length : Int) := by omega
    have hjl2 : (j : Int) < (C.length : Int) := by omega
    clear h hnr ho hv hdd hdv hcv hj hbC hbD hC hDl hi hdi hdj hjl hW hH hs c0 c1 c3 hAD' hll b0 b1
    by_cases hw : cv = 255
    · subst hw
      have HV2 : Aside0 (b = false) := ⟨by rw [HV.out]; simp⟩
      have hff : ((255 : Int) != 255) = false := rfl
      clear HV
      go_enter Try.func142, Try.ntmps142
      go_wp2_with (go_at_call 93; refine HN.out.mono ?_; rintro e w1 ⟨rfl, hd⟩; have p2 := pw_cell_below hd.below c2; have p4 := pw_cell_below hd.below c4; have pd := pw_cell_below hd.below di; have pe := pw_cell_below hd.below dj; have pt := pw_cell_below hd.below tj; have HB1 := Aside0.mk hd.below; clear hd c2 c4 di dj tj)
      go_quiet (fail)
      go_wp2
      go_ret
      exact ⟨by rw [HV2.out]; rfl, pw_below_drewN HB1.out _⟩
    · have b1 : (cv != 255) = true := by simp [hw]
      have hwr1 : IntKind.i64.wrap cv = cv := by rw [IntKind.wrap_i64]; omega
      have hwr : IntKind.i64.wrap (cv + dv) = cv + dv := by rw [IntKind.wrap_i64]; omega
      have HV2 : Aside0 ((cv + dv == dd) = b) := ⟨by rw [HV.out]; by_cases e : cv + dv = dd <;> simp [e, hw]⟩
      clear HV
      go_enter Try.func142, Try.ntmps142
      go_wp2_with (go_at_call 93; refine HN.out.mono ?_; rintro e w1 ⟨rfl, hd⟩; have p2 := pw_cell_below hd.below c2; have p4 := pw_cell_below hd.below c4; have pd := pw_cell_below hd.below di; have pe := pw_cell_below hd.below dj; have pt := pw_cell_below hd.below tj; have HB1 := Aside0.mk hd.below; clear hd c2 c4 di dj tj)
      go_quiet (fail)
      go_wp2
      go_ret
      exact ⟨by rw [← HV2.out]; rfl, pw_below_drewN HB1.out _⟩
def firstS (W H : Int) (C : List Int) (l : List Seed) (D : List Int) (i : Int) : Int :=
  if ByS W H C l D i 0 then 0 else if ByS W H C l D i 1 then 1 else if ByS W H C l D i 2 then 2 else if ByS W H C l D i 3 then 3 else 5
set_option maxRecDepth 100000 in
set_option maxHeartbeats 2000000 in
theorem first_calls (h : HelmM w g W H AT cT C AS cS l AD cD D) (hok : HelmOk W H C l D) (i : Nat) (hi : i < C.length) :
    Calls Try.prog 116 #[.pointer (some ⟨g, 0, none⟩), .int .i64 i, .int .i64 0] w fun e w' => e = .returned (.int .i64 (firstS W H C l D i)) ∧ Below w.heap.size w w' := by
  have HC := Aside0.mk (fun (w1 : World) (hb : Below w.heap.size w w1) (s : Int) (hs : 0 ≤ s ∧ s ≤ 3) (b : Bool) (hv : decide (ByS W H C l D i s) = b) => by_val (h.below hb) hok i hi s hs b hv)
  have HB0 : Aside0 (Below w.heap.size w w) := ⟨Below.refl _ _⟩
  clear h hok hi
  by_cases h0 : ByS W H C l D i 0
  · have HV : Aside0 (firstS W H C l D i = 0) := ⟨by unfold firstS; rw [if_pos h0]⟩
    have H0 := Aside0.mk (decide_eq_true h0)
    clear h0
    go_enter Try.func116, Try.ntmps116
    go_wp2_with (go_at_call 142; with_reducible refine (HC.out _ HB0.out 0 (by decide) true H0.out).mono ?_; rintro e w1 ⟨rfl, hb⟩; have HB1 := Aside0.mk hb; clear hb)
    go_ret
    exact ⟨by rw [HV.out]; rfl, HB1.out⟩
  have H0 := Aside0.mk (decide_eq_false h0)
  by_cases h1 : ByS W H C l D i 1
  · have HV : Aside0 (firstS W H C l D i = 1) := ⟨by unfold firstS; rw [if_neg h0, if_pos h1]⟩
    have H1 := Aside0.mk (decide_eq_true h1)
    clear h0 h1
    go_enter Try.func116, Try.ntmps116
    go_wp2_with (go_at_call 142; first | (with_reducible refine (HC.out _ HB0.out 0 (by decide) false H0.out).mono ?_; rintro e w1 ⟨rfl, hb⟩; have HB1 := Aside0.mk hb; clear hb) | (with_reducible refine (HC.out _ HB1.out 1 (by decide) true H1.out).mono ?_; rintro e w2 ⟨rfl, hb⟩; have HB2 := Aside0.mk (below_step HB1.out hb); clear hb))
    go_ret
    exact ⟨by rw [HV.out]; rfl, HB2.out⟩
  have H1 := Aside0.mk (decide_eq_false h1)
  by_cases h2 : ByS W H C l D i 2
  · have HV : Aside0 (firstS W H C l D i = 2) := ⟨by unfold firstS; rw [if_neg h0, if_neg h1, if_pos h2]⟩
    have H2 := Aside0.mk (decide_eq_true h2)
    clear h0 h1 h2
    go_enter Try.func116, Try.ntmps116
    go_wp2_with (go_at_call 142; first | (with_reducible refine (HC.out _ HB0.out 0 (by decide) false H0.out).mono ?_; rintro e w1 ⟨rfl, hb⟩; have HB1 := Aside0.mk hb; clear hb) | (with_reducible refine (HC.out _ HB1.out 1 (by decide) false H1.out).mono ?_; rintro e w2 ⟨rfl, hb⟩; have HB2 := Aside0.mk (below_step HB1.out hb); clear hb) | (with_reducible refine (HC.out _ HB2.out 2 (by decide) true H2.out).mono ?_; rintro e w3 ⟨rfl, hb⟩; have HB3 := Aside0.mk (below_step HB2.out hb); clear hb))
    go_ret
    exact ⟨by rw [HV.out]; rfl, HB3.out⟩
  have H2 := Aside0.mk (decide_eq_false h2)
  by_cases h3 : ByS W H C l D i 3
  · have HV : Aside0 (firstS W H C l D i = 3) := ⟨by unfold firstS; rw [if_neg h0, if_neg h1, if_neg h2, if_pos h3]⟩
    have H3 := Aside0.mk (decide_eq_true h3)
    clear h0 h1 h2 h3
    go_enter Try.func116, Try.ntmps116
    go_wp2_with (go_at_call 142; first | (with_reducible refine (HC.out _ HB0.out 0 (by decide) false H0.out).mono ?_; rintro e w1 ⟨rfl, hb⟩; have HB1 := Aside0.mk hb; clear hb) | (with_reducible refine (HC.out _ HB1.out 1 (by decide) false H1.out).mono ?_; rintro e w2 ⟨rfl, hb⟩; have HB2 := Aside0.mk (below_step HB1.out hb); clear hb) | (with_reducible refine (HC.out _ HB2.out 2 (by decide) false H2.out).mono ?_; rintro e w3 ⟨rfl, hb⟩; have HB3 := Aside0.mk (below_step HB2.out hb); clear hb) | (with_reducible refine (HC.out _ HB3.out 3 (by decide) true H3.out).mono ?_; rintro e w4 ⟨rfl, hb⟩; have HB4 := Aside0.mk (below_step HB3.out hb); clear hb))
    go_ret
    exact ⟨by rw [HV.out]; rfl, HB4.out⟩
  have HV : Aside0 (firstS W H C l D i = 5) := ⟨by unfold firstS; rw [if_neg h0, if_neg h1, if_neg h2, if_neg h3]⟩
  have H3 := Aside0.mk (decide_eq_false h3)
  clear h0 h1 h2 h3
  go_enter Try.func116, Try.ntmps116
  go_wp2_with (go_at_call 142; first | (with_reducible refine (HC.out _ HB0.out 0 (by decide) false H0.out).mono ?_; rintro e w1 ⟨rfl, hb⟩; have HB1 := Aside0.mk hb; clear hb) | (with_reducible refine (HC.out _ HB1.out 1 (by decide) false H1.out).mono ?_; rintro e w2 ⟨rfl, hb⟩; have HB2 := Aside0.mk (below_step HB1.out hb); clear hb) | (with_reducible refine (HC.out _ HB2.out 2 (by decide) false H2.out).mono ?_; rintro e w3 ⟨rfl, hb⟩; have HB3 := Aside0.mk (below_step HB2.out hb); clear hb) | (with_reducible refine (HC.out _ HB3.out 3 (by decide) false H3.out).mono ?_; rintro e w4 ⟨rfl, hb⟩; have HB4 := Aside0.mk (below_step HB3.out hb); clear hb))
  go_ret
  exact ⟨by rw [HV.out]; rfl, HB4.out⟩
set_option maxRecDepth 100000 in
set_option maxHeartbeats 2000000 in
theorem dir_calls (h : HelmM w g W H AT cT C AS cS l AD cD D) (hok : HelmOk W H C l D) (i : Nat) (hi : i < C.length) :
    Calls Try.prog 91 #[.pointer (some ⟨g, 0, none⟩), .int .i64 i] w fun e w' => e = .returned (.int .i64 (dirS W H C l D i)) ∧ Below w.heap.size w w' := by
  have hdi : i < D.length := by have := hok.1.2.2.2; omega
  obtain ⟨ad, hAD, di⟩ := h.distAt hdi
  obtain ⟨dd, hdd⟩ : ∃ v, v = rd D i := ⟨_, rfl⟩
  rw [← hdd] at di
  obtain ⟨c0, c1, c2, c3, c4⟩ := h.cells
  subst hAD
  have hil : (i : Int) < (D.length : Int) := by omega
  have HM := Aside0.mk h
  have HB := Aside0.mk (best_some l i 4 hok.2.2.2)
  have HF := Aside0.mk (fun (w1 : World) (hb : Below w.heap.size w w1) => first_calls (h.below hb) hok i hi)
  have HDD := Aside0.mk hdd
  clear h hok hi hdi hdd c0 c1 c2
  by_cases hinf : dd = 1099511627776
  · have HV : Aside0 (dirS W H C l D i = 5) := ⟨by unfold dirS; rw [if_pos (by rw [← HDD.out, hinf])]⟩
    have b0 : (dd == 1099511627776) = true := beq_iff_eq.2 hinf
    clear hinf
    go_enter Try.func91, Try.ntmps91
    go_wp2
    go_ret
    exact ⟨by rw [HV.out]; rfl, Below.refl _ _⟩
  · have b0 : (dd == 1099511627776) = false := beq_eq_false_iff_ne.2 hinf
    have HI : Aside0 (rd D i ≠ INF) := ⟨by rw [← HDD.out]; exact hinf⟩
    clear hinf
    by_cases hbe : bestS l i 4 = dd
    · have HV : Aside0 (dirS W H C l D i = 4) := ⟨by unfold dirS; rw [if_neg HI.out, if_pos (by rw [← HDD.out, hbe])]⟩
      have b1 : (dd == bestS l i 4) = true := beq_iff_eq.2 hbe.symm
      clear hbe
      go_enter Try.func91, Try.ntmps91
      go_wp2_with (go_at_call 33; refine (seeds_Best.calls _ AS cS l i 4 (bestS l i 4) _ HM.out.seeds HM.out.seedsC HB.out).mono ?_; rintro e w2 ⟨rfl, hb2⟩; have HB2 := Aside0.mk hb2; clear hb2)
      go_ret
      exact ⟨by rw [HV.out]; rfl, HB2.out⟩
    · have HV : Aside0 (dirS W H C l D i = firstS W H C l D i) := ⟨by unfold dirS firstS; rw [if_neg HI.out, if_neg (by rw [← HDD.out]; exact hbe)]⟩
      have b1 : (dd == bestS l i 4) = false := beq_eq_false_iff_ne.2 (fun e => hbe e.symm)
      clear hbe
      go_enter Try.func91, Try.ntmps91
      go_wp2_with (first | (go_at_call 33; refine (seeds_Best.calls _ AS cS l i 4 (bestS l i 4) _ HM.out.seeds HM.out.seedsC HB.out).mono ?_; rintro e w2 ⟨rfl, hb2⟩; have HB2 := Aside0.mk hb2; clear hb2) | (go_at_call 116; refine (HF.out _ HB2.out).mono ?_; rintro e w3 ⟨rfl, hb3⟩; have HB3 := Aside0.mk (below_step HB2.out hb3); clear hb3))
      go_ret
      exact ⟨by rw [HV.out]; rfl, HB3.out⟩
end Go.Proofs.Ytgcfcemgeppkmaa.P
namespace Go.Proofs.Ytgcfcemgeppkmaa.P
open Go.RowKit Go.Proofs.YtgcfcemgeppkmaaW.PrintWords Go.Proofs.YtgcfcemgeppkmaaW.PrintLast Go.Proofs.YtgcfcemgeppkmaaW.PrintMore
open Go.Proofs.Ytgcfcemgeppkmaa.Dist
set_option linter.unusedVariables false
set_option linter.unusedSimpArgs false
open Classical in
set_option maxRecDepth 100000 in
set_option maxHeartbeats 2000000 in
theorem field_calls (a0_0 : Int) (a0_1 : Int) (A0_2 : Option Addr) (c0_2 : Nat) (l0_2 : List Int) (A1 : Option Addr) (c1 : Nat) (l1 : List Seed) (r1 r2 : List Int) (r3 : Int) (w : World) (hr0_2 : Kd.C (Kd.int .u8) w A0_2 l0_2.length l0_2) (hc0_2 : l0_2.length ≤ c0_2) (hr1 : Kd.C k25 w A1 l1.length l1) (hc1 : l1.length ≤ c1) (h : fieldF a0_0 a0_1 l0_2 l1 = some (r1, r2, r3)) :
    Calls Try.prog 58 #[.agg #[.int .i64 a0_0, .int .i64 a0_1, .slice A0_2 l0_2.length c0_2], .slice A1 l1.length c1] w fun e w' => ∃ v0_ v1_ : Value, e = .returned (.tuple #[.agg #[v0_, v1_], .int .i64 r3]) ∧ Kd.R (Kd.int .i64) 3 w' w.heap.size (fun k_ => some k_ ≠ (v1_ : Value).ownBlock) v0_ r1 ∧ Kd.R (Kd.int .i64) 3 w' w.heap.size (fun k_ => some k_ ≠ (v0_ : Value).ownBlock) v1_ r2 ∧ Below w.heap.size w w' := by
  have HR0 := Aside0.mk hr0_2
  have HC0 := Aside0.mk hc0_2
  have HR1 := Aside0.mk hr1
  have HC1 := Aside0.mk hc1
  clear hr0_2 hc0_2 hr1 hc1
  unfold fieldF at h
  by_cases hs : SeedsOk a0_0 a0_1 l0_2 l1
  · rw [if_pos hs] at h
    by_cases hg : (∀ x ∈ l0_2, 0 ≤ x ∧ x ≤ 255) ∧ l1.length ≤ 1000000
    · rw [if_pos hg] at h
      simp only [Option.some.injEq, Prod.mk.injEq] at h
      obtain ⟨rfl, rfl, rfl⟩ := h
      have HSP := Aside0.mk (fun (w1 : World) (hb : Below w.heap.size w w1) => sweep_Spread.calls a0_0 a0_1 A0_2 c0_2 l0_2 A1 c1 l1 (distOf a0_0 l0_2 l1) 0 w1 (Kd.C_below HR0.out hb) HC0.out (Kd.C_below HR1.out hb) HC1.out (sweep_some hg.1 hs hg.2))
      have HS := Aside0.mk hs
      have HG := Aside0.mk hg
      clear hs hg
      obtain ⟨D, hD⟩ : ∃ D, D = distOf a0_0 l0_2 l1 := ⟨_, rfl⟩
      rw [← hD] at HSP
      have HD := Aside0.mk hD
      clear hD
      go_enter Try.func58, Try.ntmps58
      go_upto_region 6 with (first
        | ((with_reducible refine gate_dst (N := 2) rfl ?_); refine box_event ?hg (N := 2) ?hd (cs := tileCells a0_0 a0_1 A0_2 l0_2.length c0_2) (t := 35) ?hr ?_; (case hd => rfl); (case hg => rfl); (case hr => first | (go_simp; done) | (go_simp; rfl)); intro gb hg w1 hbox hb; have b0 : w1.cell? ⟨gb, 0, none⟩ = _ := cell_blk hbox rfl; have b1 : w1.cell? ⟨gb, 1, none⟩ = _ := cell_blk hbox rfl; have b2 : w1.cell? ⟨gb, 2, none⟩ = _ := cell_blk hbox rfl; have HB1 := Aside0.mk hb; have HX := Aside0.mk hbox; clear hb hbox hg)
        | ((with_reducible refine gate_dst (N := 4) rfl ?_); refine box_event ?hg (N := 4) ?hd (cs := #[.slice none 0 0, .slice none 0 0]) (t := 60) ?hr ?_; (case hd => rfl); (case hg => rfl); (case hr => first | (go_simp; done) | (go_simp; rfl)); intro ge hg w2 hbox hb; have d0 := pw_cell_below hb b0; have d1 := pw_cell_below hb b1; have d2 := pw_cell_below hb b2; clear b0 b1 b2; have HB2 := Aside0.mk (below_step HB1.out hb); have HE2 := Aside0.mk hbox; have HGE := Aside0.mk hg; have HSZ1 := Aside0.mk HB1.out.size; have HXX := Aside0.mk (blk_step HX.out hb); clear hb hbox hg)
        | (go_at_call 43; refine (HSP.out _ HB2.out).mono ?_; rintro e w3 ⟨v3, rfl, hR3, hb3⟩; obtain ⟨A3, n3, rfl⟩ := Kd.R_slice hR3; have e0 := pw_cell_below hb3 d0; have e1 := pw_cell_below hb3 d1; have e2 := pw_cell_below hb3 d2; clear d0 d1 d2; have HB3 := Aside0.mk (below_step HB2.out hb3); have HE3 := Aside0.mk (blk_step HE2.out hb3); have HR3 := Aside0.mk hR3; have HSZ23 := Aside0.mk hb3.size; clear hR3 hb3)
        | ((with_reducible refine gate_dst (N := 25) rfl ?_); refine box_event ?hg (N := 25) ?hd (cs := #[.int .i64 a0_0, .int .i64 a0_1, .slice A0_2 l0_2.length c0_2, .slice A1 l1.length c1, .slice A3 D.length n3]) (t := 107) ?hr ?_; (case hd => rfl); (case hg => rfl); (case hr => first | (go_simp; done) | (go_simp; rfl)); intro gh hg w4 hbox hb; have HB4 := Aside0.mk (below_step HB3.out hb); have HE4 := Aside0.mk (blk_step HE3.out hb); have HH4 := Aside0.mk hbox; have HR4 := Aside0.mk (Kd.R_below HR3.out hb); have HSZ24 := Aside0.mk (Nat.le_trans HSZ23.out hb.size); have HGH := Aside0.mk hg; clear hb hbox hg e0 e1 e2)
        | ((with_reducible refine gate_dst (N := 9) rfl ?_); refine box_event ?hg (N := 9) ?hd (cs := #[.slice none 0 0, .slice none 0 0]) (t := 60) ?hr ?_; (case hd => rfl); (case hg => rfl); (case hr => first | (go_simp; done) | (go_simp; rfl)); intro gf hg w5 hbox hb; have z0 : w5.cell? ⟨gf, 0, none⟩ = _ := cell_blk hbox rfl; have z1 : w5.cell? ⟨gf, 1, none⟩ = _ := cell_blk hbox rfl; have f0 := free_blk hbox 0; have f1 := free_blk hbox 1; have HB5 := Aside0.mk (below_step HB4.out hb); have HE5 := Aside0.mk (blk_step HE4.out hb); have HH5 := Aside0.mk (blk_step HH4.out hb); have HR5 := Aside0.mk (Kd.R_below HR4.out hb); have HF5 := Aside0.mk hbox; have HGF := Aside0.mk hg; clear hb hbox hg))
      -- LOOP
      have hlen : D.length = l0_2.length := by rw [HD.out]; exact dist_len HG.out.1 HS.out
      have hD256 : D.length ≤ 256 := by
        obtain ⟨t1, t2, t3, t4, t5, t6⟩ := HS.out.1
        have := mul_small ⟨t1, t2⟩ ⟨t3, t4⟩
        omega
      have hgel : w.heap.size ≤ ge ∧ ge < w2.heap.size := ⟨by have := HSZ1.out; have := HGE.out; omega, blk_lt HE2.out⟩
      have hghf : gh ≠ gf := blk_ne HH5.out HF5.out (by decide)
      have hR5 : RI w5 w2.heap.size (.slice A3 D.length n3) D := HR5.out
      have hn5 : (Value.slice A3 D.length n3).ownBlock ≠ some gf := hR5.ne HF5.out (by decide)
      have h45 : w2.heap.size ≤ gf := by
        have h1 := (HR5.out)
        have : gf = w4.heap.size := HGF.out
        have hh := blk_lt HE4.out
        have h2 : w2.heap.size ≤ w4.heap.size := HSZ24.out
        omega
      have hgef : ge ≠ gf := by omega
      obtain ⟨w6, hw6⟩ : ∃ w6, w6 = (w5.setCell ⟨gf, 0, none⟩ (.slice A3 D.length n3)).setCell ⟨gf, 1, none⟩ (.slice none 0 0) := ⟨_, rfl⟩
      rw [← hw6]
      have hF6 : w6.heap[gf]? = some (.cells #[.slice A3 D.length n3, .slice none 0 0] 60 (0, 0)) := by rw [hw6]; exact set_blk (set_blk HF5.out 0 _) 1 _
      have hE6 : w6.heap[ge]? = some (.cells #[.slice none 0 0, .slice none 0 0] 60 (0, 0)) := by rw [hw6]; exact blk_far (blk_far HE5.out hgef _) hgef _
      have hH6 : w6.heap[gh]? = some (.cells #[.int .i64 a0_0, .int .i64 a0_1, .slice A0_2 l0_2.length c0_2, .slice A1 l1.length c1, .slice A3 D.length n3] 107 (0, 0)) := by rw [hw6]; exact blk_far (blk_far HH5.out hghf _) hghf _
      have hR6 : RI w6 w2.heap.size (.slice A3 D.length n3) D := by
        rw [hw6]
        refine RI.step (RI.step hR5 (fun k hk hlt => Below.heap_setCell _ _ _ _ (fun e => hn5 (by rw [hk, e])))) (fun k hk hlt => Below.heap_setCell _ _ _ _ (fun e => hn5 (by rw [hk, e])))
      have hB6 : Below w.heap.size w w6 := by
        rw [hw6]
        have hle : w.heap.size ≤ gf := by omega
        exact (((Chg.of_below HB5.out (fun k => w.heap.size ≤ k)).set_ (p := ⟨gf, 0, none⟩) (.inl hle) _).set_ (p := ⟨gf, 1, none⟩) (.inl hle) _).below (fun k hk => hk) (Nat.le_refl _)
      have HF6 := Aside0.mk hF6
      have HE6 := Aside0.mk hE6
      have HH6 := Aside0.mk hH6
      have HR6 := Aside0.mk hR6
      have HB6 := Aside0.mk hB6
      have HGEL := Aside0.mk hgel
      have HGHF := Aside0.mk hghf
      have HGEF := Aside0.mk hgef
      have HLEF := Aside0.mk (show ge < gf by omega)
      have HLEN := Aside0.mk hlen
      have HHOK : Aside0 (HelmOk a0_0 a0_1 l0_2 l1 D) := ⟨by
        obtain ⟨t1, t2, t3, t4, t5, t6⟩ := HS.out.1
        refine ⟨⟨⟨t1, t2⟩, ⟨t3, t4⟩, t5, hlen⟩, HG.out.1, fun x hx => ?_, HG.out.2⟩
        obtain ⟨j, hj, rfl⟩ := List.mem_iff_getElem.1 hx
        rw [← rd_get D hj, HD.out]
        exact dist_range HG.out.1 HS.out (by omega)⟩
      clear hF6 hE6 hH6 hR6 hB6 hgel hghf hgef hlen hR5 hn5 h45 hw6 z0 z1 f0 f1 HE5 HH5 HR5 HF5 HGF HB5 HR4 HH4 HE4 HB4 HGH HR3 HE3 HB3 HXX HX HSP HGE
      go_wp2_with fail
      go_loopg [30] D.length (fun gg v30 wr => ∃ (i : Nat) (vd : Value), v30 = .int .i64 i ∧ i ≤ D.length ∧ D.length - i ≤ gg ∧ Aside0 (wr.heap[gf]? = some (.cells #[.slice A3 D.length n3, vd] 60 (0, 0))) ∧ Aside0 (RI wr w2.heap.size (.slice A3 D.length n3) D) ∧ Aside0 (RI wr w.heap.size vd ((dirsOf a0_0 a0_1 l0_2 l1).take i)) ∧ Aside0 (wr.heap[gh]? = some (.cells #[.int .i64 a0_0, .int .i64 a0_1, .slice A0_2 l0_2.length c0_2, .slice A1 l1.length c1, .slice A3 D.length n3] 107 (0, 0))) ∧ Aside0 (wr.heap[ge]? = some (.cells #[.slice none 0 0, .slice none 0 0] 60 (0, 0))) ∧ Aside0 (Below w.heap.size w wr) ∧ Aside0 (∀ k, vd.ownBlock = some k → (Value.slice A3 D.length n3).ownBlock ≠ some k))
      case atStart => exact ⟨0, .slice none 0 0, rfl, Nat.zero_le _, Nat.le_refl _, HF6, HR6, ⟨Kd.R_nil _ _ _ _ _⟩, HH6, HE6, HB6, ⟨fun k hk => by simp [Value.ownBlock] at hk⟩⟩
      case round =>
        obtain ⟨i, vd, rfl, hi, hgg, FR, RD, RV, HR, ER, BR, SR⟩ := hrel
        by_cases hlt : i < D.length
        · have hlt2 : (i : Int) < (D.length : Int) := by omega
          obtain ⟨xs, hxs⟩ : ∃ xs, xs = (dirsOf a0_0 a0_1 l0_2 l1).take i := ⟨_, rfl⟩
          rw [← hxs] at RV
          obtain ⟨dv, hdv⟩ : ∃ dv, dv = dirS a0_0 a0_1 l0_2 l1 D i := ⟨_, rfl⟩
          have HXS := Aside0.mk hxs
          have HDV := Aside0.mk hdv
          have hHM : HelmM wr gh a0_0 a0_1 A0_2 c0_2 l0_2 A1 c1 l1 A3 n3 D := ⟨HR.out, Kd.C_below HR0.out BR.out, Kd.C_below HR1.out BR.out, HC1.out, by
            obtain ⟨A, c, e, _, hC⟩ := Kd.R_reads RD.out
            injection e with e1 _ _
            rw [e1]
            exact hC⟩
          have hdir := dir_calls (hHM.below (w' := wr.drew) (below_drew1 (Below.refl _ _))) HHOK.out i (by rw [← HLEN.out]; exact hlt)
          rw [← hdv] at hdir
          have HDIR := Aside0.mk hdir
          have HNE : Aside0 (some gf ≠ vd.ownBlock) := ⟨fun e => RI.ne RV.out FR.out (by decide) e.symm⟩
          have h9 : xs.length ≤ i := by rw [hxs, List.length_take]; omega
          have HL : Aside0 ((xs.length + 1) * 8 ≤ 140737488355328) := ⟨by omega⟩
          clear h9
          clear hxs hdv hHM hdir
          go_wp2_with fail
          refine start_ (n := 9) (S := fun w' => w'.cell? ⟨gf, 1, none⟩ = some vd) (ds := [8]) #[false, false, false, false, false, false, false, false, false] (by kernel_rfl) rfl rfl (cell_blk (blk_drew FR.out) rfl) (fun hHeld => ?_)
          refine pure_ (i := 0) (N := some 33) (v := ?_) (a' := ?_) #[true, false, false, false, false, false, false, false, false] rfl rfl (by kernel_rfl) (fun _ _ _ h => h) (Or.inl ⟨by rfl, ?_⟩) ?_ ?_
          rotate_left
          · intro w'
            go_simp
            with_reducible rfl
          rotate_left
          · simp only [Act.put, List.setIfInBounds_toArray, List.set_cons_zero, List.set_cons_succ, i64_w, i32_w]
            rfl
          refine pure_ (i := 2) (N := some 35) (v := ?_) (a' := ?_) #[true, false, true, false, false, false, false, false, false] rfl rfl (by kernel_rfl) (fun _ _ _ h => h) (Or.inl ⟨by rfl, ?_⟩) ?_ ?_
          rotate_left
          · intro w'
            go_simp
            with_reducible rfl
          rotate_left
          · simp only [Act.put, List.setIfInBounds_toArray, List.set_cons_zero, List.set_cons_succ, i64_w, i32_w]
            rfl
          refine pure_ (i := 3) (N := some 36) (v := ?_) (a' := ?_) #[true, false, true, true, false, false, false, false, false] rfl rfl (by kernel_rfl) (fun _ _ _ h => h) (Or.inl ⟨by rfl, ?_⟩) ?_ ?_
          rotate_left
          · intro w'
            go_simp
            with_reducible rfl
          rotate_left
          · simp only [Act.put, List.setIfInBounds_toArray, List.set_cons_zero, List.set_cons_succ, i64_w, i32_w]
            rfl
          refine take_ (i := 1) (N := some 34) (v := ?_) (a' := ?_) #[true, true, true, true, false, false, false, false, false] rfl rfl (by kernel_rfl) (fun _ _ _ h => h) (Or.inl ⟨by rfl, ?_⟩) hHeld ?_ ?_
          rotate_left
          · intro w' s0
            go_simp
            with_reducible rfl
          rotate_left
          · simp only [Act.put, List.setIfInBounds_toArray, List.set_cons_zero, List.set_cons_succ, i64_w, i32_w]
            rfl
          refine one_ (i := 4) (N := some 37) #[true, true, true, true, true, false, false, false, false] rfl rfl (by kernel_rfl) (by decide) (fun K hK => ?_)
          refine goes_ Try.func91 (by kernel_rfl) rfl #[.pointer (some ⟨gh, 0, none⟩), .int .i64 i] (by rfl) rfl rfl (by simp only [List.map_toArray, List.map_cons, List.map_nil]; rfl) ?_
          with_reducible refine (HDIR.out).mono ?_
          rintro e w3 ⟨rfl, hb3⟩
          refine ⟨_, rfl, ?_⟩
          have F3 := Aside0.mk (blk_below (blk_drew FR.out) hb3)
          have HK3 := Aside0.mk hb3
          have HV3 : Aside0 (RI w3 w.heap.size vd xs) := ⟨Kd.R_below (Kd.R_drew RV.out) hb3⟩
          have HB3' : Aside0 (Below w.heap.size w w3) := ⟨below_step (below_drew1 BR.out) hb3⟩
          clear hb3
          refine hK.out _ _ (cell_blk F3.out rfl) (fun hHeld => ?_)
          clear hK K
          refine norm_ (a' := ?_) ?_ ?_
          rotate_left
          · show Act.put _ (some 37) _ = _
            simp only [Act.put, List.setIfInBounds_toArray, List.set_cons_zero, List.set_cons_succ, i64_w, i32_w]
            rfl
          refine one_ (i := 5) (N := some 38) #[true, true, true, true, true, true, false, false, false] rfl rfl (by kernel_rfl) (by decide) (fun K hK => ?_)
          refine value_ (w1 := ?_) (v := ?_) (by rfl) rfl ?_ ?_
          rotate_left 2
          · go_simp
            constructor
            · rfl
            · rfl
          have F4 := Aside0.mk (blk_alloc F3.out (.cells [.int .i64 dv].toArray 3))
          refine hK.out _ _ (cell_blk F4.out rfl) (fun hHeld => ?_)
          clear hK K
          refine norm_ (a' := ?_) ?_ ?_
          rotate_left
          · show Act.put _ (some 38) _ = _
            simp only [Act.put, List.setIfInBounds_toArray, List.set_cons_zero, List.set_cons_succ, i64_w, i32_w]
            rfl
          refine one_ (i := 6) (N := some 39) #[true, true, true, true, true, true, true, false, false] rfl rfl (by kernel_rfl) (by decide) (fun K hK => ?_)
          refine Kd.R_append_step (Kd.int .i64) (w0 := w) w.heap.size (by rfl) (.tmp 34) (.tmp 38) 36 3 (.int .i64 0) 8 rfl Try.underlying36 info3 rfl (by decide) (by omega) vd xs dv [.int .i64 dv] (fun _ => True) (fun _ => False) (by rfl) (by rfl) rfl (fun _ hk => hk.elim) (fun _ _ => trivial) HV3.out HB3'.out HB3'.out.size HL.out ?_
          intro v5 w5x ho5 hb5 hg5 hat5
          obtain ⟨A5, n5, e5⟩ := Kd.R_slice ho5
          obtain ⟨L5, hL5⟩ : ∃ L5, L5 = (xs ++ [dv]).length := ⟨_, rfl⟩
          rw [← hL5] at e5
          subst e5
          clear hL5
          have F5 := Aside0.mk (blk_grown F3.out hg5 HNE.out)
          have HO5 := Aside0.mk ho5
          have HB5' := Aside0.mk hb5
          have HG5 := Aside0.mk hg5
          have HA5 := Aside0.mk hat5
          clear ho5 hb5 hg5 hat5
          have f5 := free_blk F5.out 1
          have c5 := cell_blk (j := 1) (u := vd) F5.out rfl
          refine hK.out _ _ (cell_blk F5.out rfl) (fun hHeld => ?_)
          clear hK K
          refine norm_ (a' := ?_) ?_ ?_
          rotate_left
          · show Act.put _ (some 39) _ = _
            simp only [Act.put, List.setIfInBounds_toArray, List.set_cons_zero, List.set_cons_succ, i64_w, i32_w]
            rfl
          refine pure_ (i := 7) (N := some 40) (v := ?_) (a' := ?_) #[true, true, true, true, true, true, true, true, false] rfl rfl (by kernel_rfl) (fun _ _ _ h => h) (Or.inl ⟨by rfl, ?_⟩) ?_ ?_
          rotate_left
          · intro w'
            go_simp
            with_reducible rfl
          rotate_left
          · simp only [Act.put, List.setIfInBounds_toArray, List.set_cons_zero, List.set_cons_succ, i64_w, i32_w]
            rfl
          refine last_ (i := 8) (N := none) #[true, true, true, true, true, true, true, true, true] rfl rfl (by kernel_rfl) (by decide) (fun K hK => ?_)
          refine skip_ (w1 := ?_) (by rfl) rfl ?_ ?_
          rotate_left
          · go_simp
            rfl
          refine hK.out _ _ ?_
          clear hK K
          refine done_ (by kernel_rfl) ?_
          go_wp2_with fail
          go_roundg (D.length - (i + 1))
          case measure => omega
          case rel =>
            have hRD3 : RI w3 w2.heap.size (.slice A3 D.length n3) D := Kd.R_below (Kd.R_drew RD.out) HK3.out
            have hRD5 : RI w5x w2.heap.size (.slice A3 D.length n3) D := hRD3.step (fun k hk hlt => HG5.out.block k hlt (fun e => SR.out k e.symm hk))
            have hnd : (Value.slice A3 D.length n3).ownBlock ≠ some gf := hRD5.ne F5.out (by decide)
            have hnv : (Value.slice A5 L5 n5).ownBlock ≠ some gf := RI.ne HO5.out F5.out (by decide)
            have hH5 := blk_grown (blk_below (blk_drew HR.out) HK3.out) HG5.out (fun e => RI.ne RV.out HR.out (by decide) e.symm)
            have hE5 := blk_grown (blk_below (blk_drew ER.out) HK3.out) HG5.out (fun e => RI.ne RV.out ER.out (by decide) e.symm)
            refine ⟨i + 1, .slice A5 L5 n5, by go_num, by omega, Nat.le_refl _, ⟨set_blk F5.out 1 _⟩, ⟨hRD5.step (fun k hk hlt => Below.heap_setCell _ _ _ _ (fun e => hnd (by rw [hk, e])))⟩, ⟨?_⟩, ⟨blk_far hH5 HGHF.out _⟩, ⟨blk_far hE5 HGEF.out _⟩, ⟨?_⟩, ⟨?_⟩⟩
            · have hxe : (dirsOf a0_0 a0_1 l0_2 l1).take (i + 1) = xs ++ [dv] := by
                rw [List.take_succ_eq_append_getElem (by rw [dirs_len, ← HLEN.out]; exact hlt), ← HXS.out, ← rd_get _ (by rw [dirs_len, ← HLEN.out]; exact hlt), dirs_at _ _ _ _ (by rw [← HLEN.out]; exact hlt), ← HD.out, ← HDV.out]
              rw [hxe]
              exact RI.step HO5.out (fun k hk hlt => Below.heap_setCell _ _ _ _ (fun e => hnv (by rw [hk, e])))
            · exact ((Chg.of_below HB5'.out (fun k => w.heap.size ≤ k)).set_ (p := ⟨gf, 1, none⟩) (.inl (by have := (HGEL.out).1; have := HLEF.out; show w.heap.size ≤ gf; omega)) _).below (fun k hk => hk) (Nat.le_refl _)
            · intro k hk hd
              rcases HA5.out with e | ⟨b, e, hb⟩
              · exact SR.out k (by rw [← e]; exact hk) hd
              · rw [e] at hk
                injection hk with hk
                have := (hRD3.lt hd).2
                omega
        · have : i = D.length := by omega
          subst this
          obtain ⟨Ad, nd, ed⟩ := Kd.R_slice RV.out
          obtain ⟨Ld, hLd⟩ : ∃ L, L = ((dirsOf a0_0 a0_1 l0_2 l1).take D.length).length := ⟨_, rfl⟩
          rw [← hLd] at ed
          subst ed
          clear hLd
          have z0 := cell_blk (j := 0) (u := .slice A3 D.length n3) FR.out rfl
          have z1 := cell_blk (j := 1) (u := .slice Ad Ld nd) FR.out rfl
          have e0 := cell_blk (j := 0) (u := .slice none 0 0) ER.out rfl
          have e1 := cell_blk (j := 1) (u := .slice none 0 0) ER.out rfl
          have f0 := free_blk ER.out 0
          have f1 := free_blk ER.out 1
          go_wp2_with fail
          (try simp only [Exit.inBlock, Exit.then])
          refine bodyPost_ret (results_ct rfl _ _ ge 60 #[.slice A3 D.length n3, .slice Ad Ld nd] (0, 0) _ rfl (set_blk (set_blk ER.out 0 _) 1 _) Try.underlying60 rfl (by kernel_rfl)) rfl ?_
          have hBF : Below w.heap.size w ((wr.setCell ⟨ge, 0, none⟩ (.slice A3 D.length n3)).setCell ⟨ge, 1, none⟩ (.slice Ad Ld nd)) := (((Chg.of_below BR.out (fun k => w.heap.size ≤ k)).set_ (p := ⟨ge, 0, none⟩) (.inl HGEL.out.1) _).set_ (p := ⟨ge, 1, none⟩) (.inl HGEL.out.1) _).below (fun k hk => hk) (Nat.le_refl _)
          have hnd : (Value.slice A3 D.length n3).ownBlock ≠ some ge := RI.ne RD.out ER.out (by decide)
          have hnv : (Value.slice Ad Ld nd).ownBlock ≠ some ge := RI.ne RV.out ER.out (by decide)
          have hRD := RI.step (RI.step RD.out (w' := wr.setCell ⟨ge, 0, none⟩ (.slice A3 D.length n3)) (fun k hk hlt => Below.heap_setCell _ _ _ _ (fun e => hnd (by rw [hk, e])))) (w' := (wr.setCell ⟨ge, 0, none⟩ (.slice A3 D.length n3)).setCell ⟨ge, 1, none⟩ (.slice Ad Ld nd)) (fun k hk hlt => Below.heap_setCell _ _ _ _ (fun e => hnd (by rw [hk, e])))
          have hRV := RI.step (RI.step RV.out (w' := wr.setCell ⟨ge, 0, none⟩ (.slice A3 D.length n3)) (fun k hk hlt => Below.heap_setCell _ _ _ _ (fun e => hnv (by rw [hk, e])))) (w' := (wr.setCell ⟨ge, 0, none⟩ (.slice A3 D.length n3)).setCell ⟨ge, 1, none⟩ (.slice Ad Ld nd)) (fun k hk hlt => Below.heap_setCell _ _ _ _ (fun e => hnv (by rw [hk, e])))
          rw [List.take_of_length_le (by rw [dirs_len]; have := HLEN.out; omega)] at hRV
          have hDe := HD.out
          clear HD
          subst hDe
          exact ⟨_, _, rfl, Kd.R_flat (fun h => h) (Kd.R_lower hRD HB2.out.size) (fun k hk _ e => SR.out k e.symm hk), Kd.R_flat (fun h => h) hRV (fun k hk _ e => SR.out k hk e.symm), hBF⟩
    · rw [if_neg hg] at h
      exact absurd h (by simp)
  · rw [if_neg hs] at h
    simp only [Option.some.injEq, Prod.mk.injEq] at h
    obtain ⟨rfl, rfl, rfl⟩ := h
    have HSP := Aside0.mk (fun (w1 : World) (hb : Below w.heap.size w w1) => sweep_Spread.calls a0_0 a0_1 A0_2 c0_2 l0_2 A1 c1 l1 [] 1 w1 (Kd.C_below HR0.out hb) HC0.out (Kd.C_below HR1.out hb) HC1.out (by show spreadF _ _ _ _ = _; unfold spreadF; rw [if_neg hs]))
    clear hs
    go_enter Try.func58, Try.ntmps58
    go_wp2_with (first
        | ((with_reducible refine gate_dst (N := 2) rfl ?_); refine box_event ?hg (N := 2) ?hd (cs := tileCells a0_0 a0_1 A0_2 l0_2.length c0_2) (t := 35) ?hr ?_; (case hd => rfl); (case hg => rfl); (case hr => first | (go_simp; done) | (go_simp; rfl)); intro gb hg w1 hbox hb; have b0 : w1.cell? ⟨gb, 0, none⟩ = _ := cell_blk hbox rfl; have b1 : w1.cell? ⟨gb, 1, none⟩ = _ := cell_blk hbox rfl; have b2 : w1.cell? ⟨gb, 2, none⟩ = _ := cell_blk hbox rfl; have HB1 := Aside0.mk hb; have HX := Aside0.mk hbox; clear hb hbox hg)
        | ((with_reducible refine gate_dst (N := 4) rfl ?_); refine box_event ?hg (N := 4) ?hd (cs := #[.slice none 0 0, .slice none 0 0]) (t := 60) ?hr ?_; (case hd => rfl); (case hg => rfl); (case hr => first | (go_simp; done) | (go_simp; rfl)); intro ge hg w2 hbox hb; have d0 := pw_cell_below hb b0; have d1 := pw_cell_below hb b1; have d2 := pw_cell_below hb b2; clear b0 b1 b2; have HB2 := Aside0.mk (below_step HB1.out hb); have HE2 := Aside0.mk hbox; have HGE : Aside0 (w.heap.size ≤ ge) := ⟨by rw [hg]; exact HB1.out.size⟩; clear hb hbox hg)
        | (go_at_call 43; refine (HSP.out _ HB2.out).mono ?_; rintro e w3 ⟨v3, rfl, hR3, hb3⟩; have e0 := cell_blk (j := 0) (u := .slice none 0 0) (blk_step HE2.out hb3) rfl; have e1 := cell_blk (j := 1) (u := .slice none 0 0) (blk_step HE2.out hb3) rfl; have f0 := free_blk (blk_step HE2.out hb3) 0; have f1 := free_blk (blk_step HE2.out hb3) 1; clear d0 d1 d2; have HB3 := Aside0.mk (below_step HB2.out hb3); have HE3 := Aside0.mk (blk_step HE2.out hb3); clear hR3 hb3))
    (try simp only [Exit.inBlock, Exit.then])
    refine bodyPost_ret (results_ct rfl _ _ ge 60 #[.slice none 0 0, .slice none 0 0] (0, 0) _ rfl (set_blk (set_blk HE3.out 0 _) 1 _) Try.underlying60 rfl (by kernel_rfl)) rfl ?_
    exact ⟨.slice none 0 0, .slice none 0 0, rfl, Kd.R_nil _ _ _ _ _, Kd.R_nil _ _ _ _ _, (((Chg.of_below HB3.out (fun k => w.heap.size ≤ k)).set_ (p := ⟨ge, 0, none⟩) (.inl HGE.out) _).set_ (p := ⟨ge, 1, none⟩) (.inl HGE.out) _).below (fun k hk => hk) (Nat.le_refl _)⟩
end Go.Proofs.Ytgcfcemgeppkmaa.P
namespace Go.Proofs.Ytgcfcemgeppkmaa.P
open Go.RowKit Go.Proofs.YtgcfcemgeppkmaaW.PrintWords Go.Proofs.YtgcfcemgeppkmaaW.PrintLast Go.Proofs.YtgcfcemgeppkmaaW.PrintMore
open Go.Proofs.Ytgcfcemgeppkmaa.Dist
set_option linter.unusedVariables false
set_option linter.unusedSimpArgs false
end Go.Proofs.Ytgcfcemgeppkmaa.P
namespace Go.Proofs.Ytgcfcemgeppkmaa.P
open Go.RowKit Go.Proofs.YtgcfcemgeppkmaaW.PrintWords Go.Proofs.YtgcfcemgeppkmaaW.PrintLast Go.Proofs.YtgcfcemgeppkmaaW.PrintMore
open Go.Proofs.Ytgcfcemgeppkmaa.Dist
set_option linter.unusedVariables false
set_option linter.unusedSimpArgs false
theorem R_C {α : Type} {d : Kd α} {e base n c : Nat} {ok : Nat → Prop} {w : World} {A : Option Addr} {xs : List α} (h : d.R e w base ok (.slice A n c) xs) : d.C w A xs.length xs ∧ xs.length ≤ c := by
  obtain ⟨A', c', e, hc, hC⟩ := Kd.R_reads h
  injection e with e1 _ e3
  subst e1
  subst e3
  exact ⟨hC, hc⟩
theorem R_set {α : Type} {d : Kd α} {e base : Nat} {w : World} {v : Value} {xs : List α} (h : d.R e w base (fun _ => True) v xs) {g t : Nat} {cs : Array Value} (hb : w.heap[g]? = some (.cells cs t (0, 0))) (ht : ∀ q, q ∈ e :: d.E → q ≠ t) (j : Nat) (u : Value) : d.R e (w.setCell ⟨g, j, none⟩ u) base (fun _ => True) v xs :=
  Kd.R_mono (Kd.R_far (p := ⟨g, j, none⟩) (Kd.R_types h hb ht) (fun _ hk => hk.2) u) (fun _ _ => trivial)
end Go.Proofs.Ytgcfcemgeppkmaa.P
