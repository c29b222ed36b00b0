/-
  WALKED BY HAND: the document's direction of one cell (herdsmanref7.Dir).
-/
import Derived.Test.YtgcfcemgeppkmaaXSteer
import Derived.Test.YtgcfcemgeppkmaaXLawS
import Derived.Test.YtgcfcemgeppkmaaPx10
import Derived.Test.YtgcfcemgeppkmaaPx2
import Derived.StillTailTactics
namespace Go.Proofs.Ytgcfcemgeppkmaa.P
open Go.RowKit Go.Proofs.YtgcfcemgeppkmaaW.PrintWords Go.Proofs.YtgcfcemgeppkmaaW.PrintLast Go.Proofs.YtgcfcemgeppkmaaW.PrintMore
open Go.Proofs.Ytgcfcemgeppkmaa.Dist
set_option linter.unusedVariables false
set_option linter.unusedSimpArgs false
attribute [local go_sem] max2_int min2_int max_two min_two max_three min_three max_four min_four
theorem refBest_l0 (l : List Seed) (i s : Int) (hl : l.length ≤ 1000000) : ∀ (d j k : Nat) (b : Int × Bool), j + d = l.length → d < k → herdsmanref7_Best.l0 k l i s b.1 b.2 (j : Int) = some ((l.drop j).foldl (bestStep i s) b).1 := by
  intro d
  induction d with
  | zero =>
    intro j k b hj hk
    obtain ⟨k, rfl⟩ : ∃ m, k = m + 1 := ⟨k - 1, by omega⟩
    rw [herdsmanref7_Best.l0, if_neg (by omega), List.drop_eq_nil_of_le (by omega)]
    rfl
  | succ d ih =>
    intro j k b hj hk
    obtain ⟨k, rfl⟩ : ∃ m, k = m + 1 := ⟨k - 1, by omega⟩
    have hjl : j < l.length := by omega
    have hn := fun b => ih (j + 1) k b (by omega) (by omega)
    rw [herdsmanref7_Best.l0, if_pos (by omega), if_pos (by omega), rdT_get l hjl, w64 (n := (j : Int) + 1) (by omega) (by omega), List.drop_eq_getElem_cons hjl, List.foldl_cons]
    generalize l[j] = x
    by_cases h0 : x.f0 = i
    · rw [if_pos h0]
      by_cases h1 : x.f1 = s
      · rw [if_pos h1]
        by_cases hb : b.2 = true
        · rw [if_pos hb]
          by_cases h2 : x.f2 < b.1
          · rw [if_pos h2, show bestStep i s b x = (x.f2, true) by unfold bestStep; rw [if_pos ⟨h0, h1, .inr h2⟩]]
            exact hn (x.f2, true)
          · rw [if_neg h2, show bestStep i s b x = b by unfold bestStep; rw [if_neg (by rintro ⟨_, _, h | h⟩; rw [hb] at h; simp at h; exact h2 h)]]
            exact hn b
        · rw [if_neg hb, show bestStep i s b x = (x.f2, true) by unfold bestStep; rw [if_pos ⟨h0, h1, .inl (by simpa using hb)⟩]]
          exact hn (x.f2, true)
      · rw [if_neg h1, show bestStep i s b x = b by unfold bestStep; rw [if_neg (by rintro ⟨_, h, _⟩; exact h1 h)]]
        exact hn b
    · rw [if_neg h0, show bestStep i s b x = b by unfold bestStep; rw [if_neg (by rintro ⟨h, _⟩; exact h0 h)]]
      exact hn b
theorem refBest_some (l : List Seed) (i s : Int) (hl : l.length ≤ 1000000) (k : Nat) (hk : l.length < k) : herdsmanref7_Best.f k l i s = some (bestS l i s) := by
  have := refBest_l0 l i s hl l.length 0 k (INF, false) (by omega) hk
  exact this
theorem dirS_at {W H : Int} {C : List Int} {l : List Seed} {D : List Int} {c : Int} {s : Nat} (hs : s < 4) (h1 : rd D c ≠ INF) (h4 : bestS l c 4 ≠ rd D c) (hno : ∀ s' : Nat, s' < s → ¬ ByS W H C l D c (s' : Int)) (hy : ByS W H C l D c (s : Int)) : dirS W H C l D c = (s : Int) := by
  unfold dirS
  rw [if_neg h1, if_neg h4]
  have hn : ∀ (k : Int) (s' : Nat), k = (s' : Int) → s' < s → ¬ ByS W H C l D c k := fun k s' e h => by rw [e]; exact hno s' h
  obtain rfl | rfl | rfl | rfl : s = 0 ∨ s = 1 ∨ s = 2 ∨ s = 3 := by omega
  · rw [if_pos (show ByS W H C l D c 0 from hy)]; rfl
  · rw [if_neg (hn 0 0 rfl (by omega)), if_pos (show ByS W H C l D c 1 from hy)]; rfl
  · rw [if_neg (hn 0 0 rfl (by omega)), if_neg (hn 1 1 rfl (by omega)), if_pos (show ByS W H C l D c 2 from hy)]; rfl
  · rw [if_neg (hn 0 0 rfl (by omega)), if_neg (hn 1 1 rfl (by omega)), if_neg (hn 2 2 rfl (by omega)), if_pos (show ByS W H C l D c 3 from hy)]; rfl
theorem dirS_end {W H : Int} {C : List Int} {l : List Seed} {D : List Int} {c : Int} (h1 : rd D c ≠ INF) (h4 : bestS l c 4 ≠ rd D c) (hno : ∀ s' : Nat, s' < 4 → ¬ ByS W H C l D c (s' : Int)) : dirS W H C l D c = 5 := by
  unfold dirS
  rw [if_neg h1, if_neg h4, if_neg (show ¬ ByS W H C l D c 0 from hno 0 (by omega)), if_neg (show ¬ ByS W H C l D c 1 from hno 1 (by omega)), if_neg (show ¬ ByS W H C l D c 2 from hno 2 (by omega)), if_neg (show ¬ ByS W H C l D c 3 from hno 3 (by omega))]
set_option maxRecDepth 100000 in
set_option maxHeartbeats 8000000 in
theorem dirW_calls (W H : Int) (At : Option Addr) (ct : Nat) (C : List Int) (As : Option Addr) (cs : Nat) (l : List Seed) (Ad : Option Addr) (cd : Nat) (D : List Int) (c : Nat) (w : World) (hT : Kd.C (Kd.int .u8) w At C.length C) (hS : Kd.C k25 w As l.length l) (hSc : l.length ≤ cs) (hd : Kd.C (Kd.int .i64) w Ad D.length D) (hb : ∀ x ∈ C, 0 ≤ x ∧ x ≤ 255) (h : SeedsOk W H C l) (hl : l.length ≤ 1000000) (hD : D = distOf W C l) (hc : c < C.length) :
    Calls Try.prog 92 #[.agg #[.int .i64 W, .int .i64 H, .slice At C.length ct], .slice As l.length cs, .slice Ad D.length cd, .int .i64 c] w fun e w' => e = .returned (.int .i64 (dirS W H C l D (c : Int))) ∧ Below w.heap.size w w' := by
  obtain ⟨a1, a2, a3, a4, a5, a6⟩ := id h.1
  have hm := mul_small ⟨a1, a2⟩ ⟨a3, a4⟩
  have hlen : D.length = C.length := by rw [hD]; exact dist_len hb h
  obtain ⟨adC, hAt, _⟩ := Kd.at_int hT 0 (by omega) (by omega)
  subst hAt
  obtain ⟨adD, hAd, _⟩ := Kd.at_int hd 0 (by omega) (by omega)
  subst hAd
  have HCC : Aside0 (∀ wx, Below w.heap.size w wx → ∀ j : Nat, j < C.length → wx.cell? (adC.add j) = some (.int .u8 (rd C (j : Int)))) := ⟨fun wx hx j hj => by
    obtain ⟨ad, e, hc⟩ := Kd.at_int (Kd.C_below hT hx) (j : Int) (by omega) (by omega)
    obtain rfl := Option.some.inj e
    simpa using hc⟩
  have HDD : Aside0 (∀ wx, Below w.heap.size w wx → ∀ j : Nat, j < C.length → wx.cell? (adD.add j) = some (.int .i64 (rd D (j : Int)))) := ⟨fun wx hx j hj => by
    obtain ⟨ad, e, hc⟩ := Kd.at_int (Kd.C_below hd hx) (j : Int) (by omega) (by omega)
    obtain rfl := Option.some.inj e
    simpa using hc⟩
  have HBE : Aside0 (∀ (wx : World) (k : Int), Below w.heap.size w wx → Calls Try.prog 41 #[.slice As l.length cs, .int .i64 c, .int .i64 k] wx fun e w' => e = .returned (.int .i64 (bestS l c k)) ∧ Drawn0 wx w') := ⟨fun wx k hx => herdsmanref7_Best.calls (l.length + 1) As cs l c k _ wx (Kd.C_below hS hx) hSc (refBest_some l c k hl _ (by omega))⟩
  have hdr := dist_range hb h hc
  rw [← hD] at hdr
  have HDR : Aside0 (∀ j : Nat, j < C.length → 0 ≤ rd D (j : Int) ∧ rd D (j : Int) ≤ INF) := ⟨fun j hj => by rw [hD]; exact dist_range hb h hj⟩
  have HBY := Aside0.mk hb
  have HWH := Aside0.mk (And.intro (And.intro a1 a2) (And.intro (And.intro a3 a4) a5))
  have HL := Aside0.mk hlen
  have HC := Aside0.mk hc
  obtain ⟨dc, hdc⟩ : ∃ dc, dc = rd D (c : Int) := ⟨_, rfl⟩
  rw [← hdc] at hdr
  have ec0 : (0 : Int) ≤ (c : Int) := by omega
  have ec1 : (c : Int) < (D.length : Int) := by omega
  have HDCe := Aside0.mk hdc
  clear hT hS hSc hd hb h hl hD a1 a2 a3 a4 a5 a6 hm hlen hdc
  go_enter Try.func92, Try.ntmps92
  go_upto_region 1 with ((with_reducible refine gate_dst (N := 4) rfl ?_); refine box_event ?hg (N := 4) ?hd (cs := #[.int .i64 W, .int .i64 H, .slice (some adC) C.length ct]) (t := 35) ?hr ?_; (case hd => rfl); (case hg => rfl); (case hr => first | (go_simp; done) | (go_simp; rfl)); intro gb hg w1 hbox hb; have HX1 := Aside0.mk hbox; have HB1 := Aside0.mk hb; clear hbox hb hg)
  have zd := HDD.out w1 HB1.out c HC.out
  rw [← HDCe.out] at zd
  by_cases hinf : dc < 1099511627776
  · have HINF := Aside0.mk hinf
    clear hdr hc
    go_wp2_with fail
    have zd := HDD.out w1 HB1.out c HC.out
    rw [← HDCe.out] at zd
    have HQ1 : Aside0 (∀ q, Calls Try.prog 41 #[.slice As l.length cs, .int .i64 c, .int .i64 4] (w1.drewN q) fun e w' => e = .returned (.int .i64 (bestS l c 4)) ∧ Drawn0 (w1.drewN q) w') := ⟨fun q => HBE.out _ 4 (pw_below_drewN HB1.out q)⟩
    obtain ⟨b4, hb4⟩ : ∃ b, b = bestS l c 4 := ⟨_, rfl⟩
    rw [← hb4] at HQ1
    have HB4 := Aside0.mk hb4
    clear hb4
    go_quiet ((go_at_call 41; refine (HQ1.out _).mono ?_; rintro e w' ⟨rfl, ⟨nd, rfl⟩⟩; exact ⟨rfl, _, World.drewN_drewN _ _ _⟩))
    have HX2 := Aside0.mk (blk_step HX1.out (pw_below_drewN (Below.refl _ _) nq))
    have HB2 := Aside0.mk (pw_below_drewN HB1.out nq)
    generalize w1.drewN nq = w2 at *
    clear HQ1 HX1 HB1 zd
    by_cases h4 : b4 = dc
    · have e4 : (b4 == dc) = true := by simp [h4]
      have HR : Aside0 (dirS W H C l D (c : Int) = 4) := ⟨by unfold dirS; rw [if_neg (by rw [← HDCe.out]; have := HINF.out; show ¬ dc = 1099511627776; omega), if_pos (by rw [← HB4.out, ← HDCe.out]; exact h4)]⟩
      clear h4
      go_wp2_with fail
      go_ret
      exact ⟨by rw [HR.out] <;> rfl, HB2.out⟩
    · have e4 : (b4 == dc) = false := by simp [h4]
      have H4 := Aside0.mk h4
      have HINE : Aside0 (rd D (c : Int) ≠ INF ∧ bestS l c 4 ≠ rd D (c : Int)) := ⟨by rw [← HDCe.out]; have := HINF.out; show ¬ dc = 1099511627776; omega, by rw [← HB4.out, ← HDCe.out]; exact h4⟩
      clear h4
      go_wp2_with fail
      rw [e4]
      go_loopg [9] 4 (fun gg v9 wr => ∃ s : Nat, v9 = .int .i64 s ∧ s ≤ 4 ∧ 4 - s ≤ gg ∧ Aside0 (wr.heap[gb]? = some (.cells #[.int .i64 W, .int .i64 H, .slice (some adC) C.length ct] 35 (0, 0))) ∧ Aside0 (Below w.heap.size w wr) ∧ Aside0 (∀ s' : Nat, s' < s → ¬ ByS W H C l D (c : Int) (s' : Int)))
      case atStart => exact ⟨0, rfl, Nat.zero_le _, Nat.le_refl _, HX2, HB2, ⟨fun s' hs' => absurd hs' (by omega)⟩⟩
      case round =>
        clear HX2 HB2
        obtain ⟨s, rfl, hs4, hgg, HX, HB, HNO⟩ := hrel
        by_cases hlt : s < 4
        · have d0 : (s : Int) ≤ 3 := by omega
          have hwh := HWH.out
          have hcl := HC.out
          have hstep : herdsmanref1_Step.f (295 + 5) W H (c : Int) (s : Int) = some (if OutE W H c s then -1 else nbS W c s) := step_val hwh.1 hwh.2.1 (by omega) (by omega) (by omega) 295
          have b0 := cell_blk (j := 0) (u := .int .i64 W) HX.out rfl
          have b1 := cell_blk (j := 1) (u := .int .i64 H) HX.out rfl
          have HI6 := Aside0.mk (And.intro hs4 (And.intro hgg hlt))
          by_cases ho : OutE W H c s
          · rw [if_pos ho] at hstep
            have HZT := Aside0.mk hstep
            have HQB : Aside0 (∀ q, Calls Try.prog 41 #[.slice As l.length cs, .int .i64 c, .int .i64 s] (wr.drewN q) fun e w' => e = .returned (.int .i64 (bestS l c s)) ∧ Drawn0 (wr.drewN q) w') := ⟨fun q => HBE.out _ s (pw_below_drewN HB.out q)⟩
            obtain ⟨bv, hbv⟩ : ∃ b, b = bestS l c s := ⟨_, rfl⟩
            rw [← hbv] at HQB
            have HBV := Aside0.mk hbv
            have HOU := Aside0.mk ho
            clear hs4 hgg hlt hcl hwh hstep ho hbv
            go_wp2_with (go_at_call 80; refine (herdsmanref1_Step.calls 300 W H c s (-1) _ HZT.out).mono ?_; rintro e w3 ⟨rfl, ⟨nd, rfl⟩⟩)
            have zd := HDD.out _ (pw_below_drewN HB.out nd) c HC.out
            rw [← HDCe.out] at zd
            have HQC : Aside0 (∀ q, Calls Try.prog 41 #[.slice As l.length cs, .int .i64 c, .int .i64 s] ((wr.drewN nd).drewN q) fun e w' => e = .returned (.int .i64 bv) ∧ Drawn0 ((wr.drewN nd).drewN q) w') := ⟨fun q => by rw [World.drewN_drewN]; exact HQB.out _⟩
            have HX3 := Aside0.mk (blk_step HX.out (pw_below_drewN (Below.refl _ _) nd))
            have HB3 := Aside0.mk (pw_below_drewN HB.out nd)
            generalize wr.drewN nd = w3 at *
            by_cases hq : bv = dc
            · have eq1 : (bv == dc) = true := by simp [hq]
              have HR : Aside0 (dirS W H C l D (c : Int) = (s : Int)) := ⟨dirS_at HI6.out.2.2 HINE.out.1 HINE.out.2 HNO.out (.inl ⟨HOU.out, by rw [← HBV.out, ← HDCe.out]; exact hq⟩)⟩
              clear hq
              go_quiet ((go_at_call 41; refine (HQC.out _).mono ?_; rintro e w' ⟨rfl, ⟨nd, rfl⟩⟩; exact ⟨rfl, _, World.drewN_drewN _ _ _⟩))
              go_wp2_with fail
              go_ret
              exact ⟨by rw [HR.out] <;> rfl, pw_below_drewN HB3.out nq⟩
            · have eq1 : (bv == dc) = false := by simp [hq]
              have HN2 : Aside0 (∀ s' : Nat, s' < s + 1 → ¬ ByS W H C l D (c : Int) (s' : Int)) := ⟨fun s' hs' => by
                by_cases e : s' = s
                · subst e
                  rintro (h | h)
                  · exact hq (by rw [HBV.out, HDCe.out]; exact h.2)
                  · exact h.1 HOU.out
                · exact HNO.out s' (by omega)⟩
              clear hq
              go_quiet ((go_at_call 41; refine (HQC.out _).mono ?_; rintro e w' ⟨rfl, ⟨nd, rfl⟩⟩; exact ⟨rfl, _, World.drewN_drewN _ _ _⟩))
              have HX4 := Aside0.mk (blk_step HX3.out (pw_below_drewN (Below.refl _ _) nq))
              have HB4' := Aside0.mk (pw_below_drewN HB3.out nq)
              go_wp2_with fail
              go_roundg (4 - (s + 1))
              case measure => have := HI6.out; omega
              case rel => exact ⟨s + 1, by first | rfl | (rw [w64 (n := (s : Int) + 1) (by omega) (by omega)]; rfl), by have := HI6.out; omega, Nat.le_refl _, HX4, HB4', HN2⟩
          · rw [if_neg ho] at hstep
            obtain ⟨p0, p1, p2⟩ := nb_in hwh.1 hwh.2.1 hwh.2.2 (show (0 : Int) ≤ (c : Int) by omega) (by omega) (show 0 ≤ (s : Int) ∧ (s : Int) ≤ 3 by omega) ho
            obtain ⟨j, hj⟩ : ∃ j : Nat, (j : Int) = nbS W c s := ⟨(nbS W c s).toNat, by omega⟩
            rw [← hj] at p0 p1 p2 hstep
            have hjl : j < C.length := by omega
            have HZT := Aside0.mk hstep
            obtain ⟨jv, hjv⟩ : ∃ jv, jv = rd C (j : Int) := ⟨_, rfl⟩
            obtain ⟨dj, hdj⟩ : ∃ dj, dj = rd D (j : Int) := ⟨_, rfl⟩
            have hrj := HDR.out j hjl
            have hjb : 0 ≤ jv ∧ jv ≤ 255 := by rw [hjv, rd_get C hjl]; exact HBY.out _ (List.getElem_mem _)
            rw [← hdj] at hrj
            have ej0 : (0 : Int) ≤ (j : Int) := p0
            have ej1 : (j : Int) < (C.length : Int) := by omega
            have ej2 : (j : Int) < (D.length : Int) := by have := HL.out; omega
            have ej3 : decide ((j : Int) < 0) = false := decide_eq_false (by omega)
            have hINF : INF = 1099511627776 := rfl
            have iw1 : IntKind.i64.wrap jv = jv := by rw [IntKind.wrap_i64]; omega
            have iw2 : IntKind.i64.wrap (dj + jv) = dj + jv := by rw [IntKind.wrap_i64]; omega
            have HJ := Aside0.mk (And.intro hj (And.intro hjv (And.intro hdj (And.intro hjl ho))))
            clear hs4 hgg hlt hcl hwh hstep ho p0 p1 p2 hj hjl hjv hdj hrj hjb hINF
            go_wp2_with (go_at_call 80; refine (herdsmanref1_Step.calls 300 W H c s j _ HZT.out).mono ?_; rintro e w3 ⟨rfl, ⟨nd, rfl⟩⟩)
            have HX3 := Aside0.mk (blk_step HX.out (pw_below_drewN (Below.refl _ _) nd))
            have HB3 := Aside0.mk (pw_below_drewN HB.out nd)
            generalize wr.drewN nd = w3 at *
            have zd := HDD.out _ HB3.out c HC.out
            rw [← HDCe.out] at zd
            have zj := HDD.out _ HB3.out j HJ.out.2.2.2.1
            rw [← HJ.out.2.2.1] at zj
            have tj := HCC.out _ HB3.out j HJ.out.2.2.2.1
            rw [← HJ.out.2.1] at tj
            have b2 := cell_blk (j := 2) (u := .slice (some adC) C.length ct) HX3.out rfl
            by_cases hjw : jv = 255
            · have ew : (jv != 255) = false := by simp [hjw]
              have HN2 : Aside0 (∀ s' : Nat, s' < s + 1 → ¬ ByS W H C l D (c : Int) (s' : Int)) := ⟨fun s' hs' => by
                by_cases e : s' = s
                · subst e
                  rintro (h | h)
                  · exact HJ.out.2.2.2.2 h.1
                  · exact h.2.1 (by rw [← HJ.out.1, ← HJ.out.2.1]; exact hjw)
                · exact HNO.out s' (by omega)⟩
              clear hjw
              go_quiet (fail)
              have HX4 := Aside0.mk (blk_step HX3.out (pw_below_drewN (Below.refl _ _) nq))
              have HB4' := Aside0.mk (pw_below_drewN HB3.out nq)
              go_wp2_with fail
              go_roundg (4 - (s + 1))
              case measure => have := HI6.out; omega
              case rel => exact ⟨s + 1, by first | rfl | (rw [w64 (n := (s : Int) + 1) (by omega) (by omega)]; rfl), by have := HI6.out; omega, Nat.le_refl _, HX4, HB4', HN2⟩
            · have ew : (jv != 255) = true := by simp [hjw]
              by_cases hq : dj + jv = dc
              · have eq1 : (dj + jv == dc) = true := by simp [hq]
                have HR : Aside0 (dirS W H C l D (c : Int) = (s : Int)) := ⟨dirS_at HI6.out.2.2 HINE.out.1 HINE.out.2 HNO.out (.inr ⟨HJ.out.2.2.2.2, by rw [← HJ.out.1, ← HJ.out.2.1]; exact hjw, by rw [← HJ.out.1, ← HJ.out.2.1, ← HJ.out.2.2.1, ← HDCe.out]; omega⟩)⟩
                clear hq hjw
                go_quiet (fail)
                go_wp2_with fail
                go_ret
                exact ⟨by rw [HR.out] <;> rfl, pw_below_drewN HB3.out nq⟩
              · have eq1 : (dj + jv == dc) = false := by simp [hq]
                have HN2 : Aside0 (∀ s' : Nat, s' < s + 1 → ¬ ByS W H C l D (c : Int) (s' : Int)) := ⟨fun s' hs' => by
                  by_cases e : s' = s
                  · subst e
                    rintro (h | h)
                    · exact HJ.out.2.2.2.2 h.1
                    · have h3 := h.2.2
                      rw [← HJ.out.1, ← HJ.out.2.1, ← HJ.out.2.2.1, ← HDCe.out] at h3
                      omega
                  · exact HNO.out s' (by omega)⟩
                clear hq hjw
                go_quiet (fail)
                have HX4 := Aside0.mk (blk_step HX3.out (pw_below_drewN (Below.refl _ _) nq))
                have HB4' := Aside0.mk (pw_below_drewN HB3.out nq)
                go_wp2_with fail
                go_roundg (4 - (s + 1))
                case measure => have := HI6.out; omega
                case rel => exact ⟨s + 1, by first | rfl | (rw [w64 (n := (s : Int) + 1) (by omega) (by omega)]; rfl), by have := HI6.out; omega, Nat.le_refl _, HX4, HB4', HN2⟩
        · obtain rfl : s = 4 := by omega
          have d0 : decide (((4 : Nat) : Int) ≤ 3) = false := rfl
          have HR : Aside0 (dirS W H C l D (c : Int) = 5) := ⟨dirS_end HINE.out.1 HINE.out.2 HNO.out⟩
          clear hs4 hgg hlt
          go_wp2_with fail
          go_ret
          exact ⟨by rw [HR.out] <;> rfl, HB.out⟩
  · have hinf2 : (1099511627776 : Int) ≤ dc := by omega
    have hinf3 : decide (dc < 1099511627776) = false := decide_eq_false hinf
    have HR : Aside0 (dirS W H C l D (c : Int) = 5) := ⟨by unfold dirS; rw [if_pos (by rw [← HDCe.out]; show dc = 1099511627776; have : dc ≤ 1099511627776 := hdr.2; omega)]⟩
    clear hdr hc hinf
    go_wp2_with fail
    go_ret
    exact ⟨by rw [HR.out] <;> rfl, HB1.out⟩
open Classical in
/-- The document's direction of a cell, where seeds may be and the distances are theirs. -/
noncomputable def refDirF (W H : Int) (C : List Int) (l : List Seed) (D : List Int) (c : Int) : Option Int := if (∀ x ∈ C, 0 ≤ x ∧ x ≤ 255) ∧ SeedsOk W H C l ∧ l.length ≤ 1000000 ∧ D = distOf W C l ∧ 0 ≤ c ∧ c < C.length then some (dirS W H C l D c) else none
theorem refDir_some {W H : Int} {C : List Int} {l : List Seed} {D : List Int} (hb : ∀ x ∈ C, 0 ≤ x ∧ x ≤ 255) (h : SeedsOk W H C l) (hl : l.length ≤ 1000000) (hD : D = distOf W C l) {c : Int} (hc : 0 ≤ c) (hc' : c < C.length) : refDirF W H C l D c = some (dirS W H C l D c) := by
  unfold refDirF
  rw [if_pos ⟨hb, h, hl, hD, hc, hc'⟩]
theorem refDir_calls (W H : Int) (At : Option Addr) (ct : Nat) (C : List Int) (As : Option Addr) (cs : Nat) (l : List Seed) (Ad : Option Addr) (cd : Nat) (D : List Int) (c : Int) (r : Int) (w : World) (hT : Kd.C (Kd.int .u8) w At C.length C) (hTc : C.length ≤ ct) (hS : Kd.C k25 w As l.length l) (hSc : l.length ≤ cs) (hd : Kd.C (Kd.int .i64) w Ad D.length D) (hdc : D.length ≤ cd) (hr : refDirF W H C l D c = some r) :
    Calls Try.prog 92 #[.agg #[.int .i64 W, .int .i64 H, .slice At C.length ct], .slice As l.length cs, .slice Ad D.length cd, .int .i64 c] w fun e w' => e = .returned (.int .i64 r) ∧ Below w.heap.size w w' := by
  unfold refDirF at hr
  split at hr
  · rename_i h
    obtain rfl := Option.some.inj hr
    obtain ⟨n, rfl⟩ : ∃ n : Nat, c = n := ⟨c.toNat, by have := h.2.2.2.2.1; omega⟩
    exact dirW_calls W H At ct C As cs l Ad cd D n w hT hS hSc hd h.1 h.2.1 h.2.2.1 h.2.2.2.1 (by have := h.2.2.2.2.2; omega)
  · cases hr
end Go.Proofs.Ytgcfcemgeppkmaa.P
