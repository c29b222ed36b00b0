/-
  seeds.May.
-/
import Derived.Test.YtgcfcemgeppkmaaXMayP
import Derived.Test.YtgcfcemgeppkmaaXRow
import Derived.Test.YtgcfcemgeppkmaaXSort
import Derived.Test.YtgcfcemgeppkmaaXRing
import Derived.Test.YtgcfcemgeppkmaaXLay
import Derived.Test.YtgcfcemgeppkmaaPx2
import Derived.Test.YtgcfcemgeppkmaaPx2
import Derived.Shelf.SlicesQ.IndexFunc
namespace Go.Proofs.Ytgcfcemgeppkmaa.P
open Go.RowKit Go.Proofs.YtgcfcemgeppkmaaW.PrintWords Go.Proofs.YtgcfcemgeppkmaaW.PrintLast Go.Proofs.YtgcfcemgeppkmaaW.PrintMore
set_option linter.unusedVariables false
set_option linter.unusedSimpArgs false

abbrev tileCells (W H : Int) (A : Option Addr) (n c : Nat) : Array Value := #[.int .i64 W, .int .i64 H, .slice A n c]

set_option maxHeartbeats 2000000 in
/-- What the closure answers of a seed. -/
theorem pred_calls (gb : Nat) (W H : Int) (A : Option Addr) (c : Nat) (C : List Int) (x : Seed) (w : World) (hb : w.heap[gb]? = some (.cells (tileCells W H A C.length c) 35 (0, 0))) (hr : Kd.C (Kd.int .u8) w A C.length C) (hc : C.length ≤ c) (ht : TileOk W H C) :
    Calls Try.prog 83 #[.agg #[.int .i64 x.f0, .int .i64 x.f1, .int .i64 x.f2], .pointer (some ⟨gb, 0, none⟩)] w fun e w' => e = .returned (.bool (!decide (SeedOk W H C x))) ∧ Below w.heap.size w w' := by
  have b0 : w.cell? ⟨gb, 0, none⟩ = some (.int .i64 W) := cell_blk hb rfl
  have b1 : w.cell? ⟨gb, 1, none⟩ = some (.int .i64 H) := cell_blk hb rfl
  have b2 : w.cell? ⟨gb, 2, none⟩ = some (.slice A C.length c) := cell_blk hb rfl
  have hgb := World.new_ne w _ b0
  have hcl := hr.2.1
  have HR := Aside0.mk hr
  have HC := Aside0.mk hc
  have HT := Aside0.mk ht
  have HB := Aside0.mk hb
  clear hr hc ht hb
  by_cases h0 : x.f0 < 0
  · have hF : decide (SeedOk W H C x) = false := decide_eq_false (fun h => by have := h.1; omega)
    have HF := Aside0.mk hF
    clear hF
    go_enter Try.func83, Try.ntmps83
    go_wp2_with ((with_reducible refine gate_dst (N := 2) rfl ?_); refine box_event ?hg (N := 2) ?hd (cs := #[.int .i64 x.f0, .int .i64 x.f1, .int .i64 x.f2]) (t := 25) ?hr ?_; (case hd => rfl); (case hg => rfl); (case hr => first | (go_simp; done) | (go_simp; rfl)); intro gs hg w1 hbox hb; have s0 : w1.cell? ⟨gs, 0, none⟩ = _ := cell_blk hbox rfl; have s1 : w1.cell? ⟨gs, 1, none⟩ = _ := cell_blk hbox rfl; have s2 : w1.cell? ⟨gs, 2, none⟩ = _ := cell_blk hbox rfl; have p0 := pw_cell_below hb b0; have p1 := pw_cell_below hb b1; have p2 := pw_cell_below hb b2; have HB1 := Aside0.mk hb; have HR1 := Aside0.mk (Kd.C_below HR.out hb); clear hb hbox b0 b1 b2 hg)
    go_ret
    exact ⟨by rw [HF.out]; rfl, HB1.out⟩
  by_cases h1 : (C.length : Int) ≤ x.f0
  · have hF : decide (SeedOk W H C x) = false := decide_eq_false (fun h => by have := h.2.1; omega)
    have HF := Aside0.mk hF
    clear hF
    go_enter Try.func83, Try.ntmps83
    go_wp2_with ((with_reducible refine gate_dst (N := 2) rfl ?_); refine box_event ?hg (N := 2) ?hd (cs := #[.int .i64 x.f0, .int .i64 x.f1, .int .i64 x.f2]) (t := 25) ?hr ?_; (case hd => rfl); (case hg => rfl); (case hr => first | (go_simp; done) | (go_simp; rfl)); intro gs hg w1 hbox hb; have s0 : w1.cell? ⟨gs, 0, none⟩ = _ := cell_blk hbox rfl; have s1 : w1.cell? ⟨gs, 1, none⟩ = _ := cell_blk hbox rfl; have s2 : w1.cell? ⟨gs, 2, none⟩ = _ := cell_blk hbox rfl; have p0 := pw_cell_below hb b0; have p1 := pw_cell_below hb b1; have p2 := pw_cell_below hb b2; have HB1 := Aside0.mk hb; have HR1 := Aside0.mk (Kd.C_below HR.out hb); clear hb hbox b0 b1 b2 hg)
    go_ret
    exact ⟨by rw [HF.out]; rfl, HB1.out⟩
  obtain ⟨i, hi⟩ : ∃ i : Nat, x.f0 = (i : Int) := ⟨x.f0.toNat, by omega⟩
  obtain ⟨ad, hAD, ct⟩ : ∃ ad, A = some ad ∧ w.cell? (ad.add i) = some (.int .u8 (rd C i)) := by
    have := Kd.at_int HR.out (i : Int) (by omega) (by omega)
    simpa using this
  subst hAD
  have hadne := World.new_ne w _ ct
  rw [hi] at h0 h1
  have h1' : (i : Int) < (C.length : Int) := by omega
  have HI := Aside0.mk hi
  by_cases h2 : rd C (i : Int) = 255
  · have hF : decide (SeedOk W H C x) = false := decide_eq_false (fun h => h.2.2.1 (by rw [hi]; exact h2))
    have HF := Aside0.mk hF
    rw [h2] at ct
    have hff : ((255 : Int) == 255) = true := rfl
    clear hF
    rw [hi]
    clear hi h2
    go_enter Try.func83, Try.ntmps83
    go_wp2_with ((with_reducible refine gate_dst (N := 2) rfl ?_); refine box_event ?hg (N := 2) ?hd (cs := #[.int .i64 i, .int .i64 x.f1, .int .i64 x.f2]) (t := 25) ?hr ?_; (case hd => rfl); (case hg => rfl); (case hr => first | (go_simp; done) | (go_simp; rfl)); intro gs hg w1 hbox hb; have s0 : w1.cell? ⟨gs, 0, none⟩ = _ := cell_blk hbox rfl; have s1 : w1.cell? ⟨gs, 1, none⟩ = _ := cell_blk hbox rfl; have s2 : w1.cell? ⟨gs, 2, none⟩ = _ := cell_blk hbox rfl; have p0 := pw_cell_below hb b0; have p1 := pw_cell_below hb b1; have p2 := pw_cell_below hb b2; have pt := pw_cell_below hb ct; clear ct; have HB1 := Aside0.mk hb; have HR1 := Aside0.mk (Kd.C_below HR.out hb); clear hb hbox b0 b1 b2 hg)
    go_ret
    exact ⟨by rw [HF.out]; rfl, HB1.out⟩
  have h2' : (rd C (i : Int) == 255) = false := beq_eq_false_iff_ne.2 h2
  by_cases h3 : x.f2 < 0
  · have hF : decide (SeedOk W H C x) = false := decide_eq_false (fun h => by have := h.2.2.2.1; omega)
    have HF := Aside0.mk hF
    clear hF
    rw [hi]
    clear hi h2
    go_enter Try.func83, Try.ntmps83
    go_wp2_with ((with_reducible refine gate_dst (N := 2) rfl ?_); refine box_event ?hg (N := 2) ?hd (cs := #[.int .i64 i, .int .i64 x.f1, .int .i64 x.f2]) (t := 25) ?hr ?_; (case hd => rfl); (case hg => rfl); (case hr => first | (go_simp; done) | (go_simp; rfl)); intro gs hg w1 hbox hb; have s0 : w1.cell? ⟨gs, 0, none⟩ = _ := cell_blk hbox rfl; have s1 : w1.cell? ⟨gs, 1, none⟩ = _ := cell_blk hbox rfl; have s2 : w1.cell? ⟨gs, 2, none⟩ = _ := cell_blk hbox rfl; have p0 := pw_cell_below hb b0; have p1 := pw_cell_below hb b1; have p2 := pw_cell_below hb b2; have pt := pw_cell_below hb ct; clear ct; have HB1 := Aside0.mk hb; have HR1 := Aside0.mk (Kd.C_below HR.out hb); clear hb hbox b0 b1 b2 hg)
    go_ret
    exact ⟨by rw [HF.out]; rfl, HB1.out⟩
  by_cases h4 : 1073741824 < x.f2
  · have hF : decide (SeedOk W H C x) = false := decide_eq_false (fun h => by have := h.2.2.2.2.1; omega)
    have HF := Aside0.mk hF
    clear hF
    rw [hi]
    clear hi h2
    go_enter Try.func83, Try.ntmps83
    go_wp2_with ((with_reducible refine gate_dst (N := 2) rfl ?_); refine box_event ?hg (N := 2) ?hd (cs := #[.int .i64 i, .int .i64 x.f1, .int .i64 x.f2]) (t := 25) ?hr ?_; (case hd => rfl); (case hg => rfl); (case hr => first | (go_simp; done) | (go_simp; rfl)); intro gs hg w1 hbox hb; have s0 : w1.cell? ⟨gs, 0, none⟩ = _ := cell_blk hbox rfl; have s1 : w1.cell? ⟨gs, 1, none⟩ = _ := cell_blk hbox rfl; have s2 : w1.cell? ⟨gs, 2, none⟩ = _ := cell_blk hbox rfl; have p0 := pw_cell_below hb b0; have p1 := pw_cell_below hb b1; have p2 := pw_cell_below hb b2; have pt := pw_cell_below hb ct; clear ct; have HB1 := Aside0.mk hb; have HR1 := Aside0.mk (Kd.C_below HR.out hb); clear hb hbox b0 b1 b2 hg)
    go_ret
    exact ⟨by rw [HF.out]; rfl, HB1.out⟩
  have hF : decide (SeedOk W H C x) = decide (OutOk W H i x.f1) := decide_eq_decide.2 ⟨fun h => by rw [← hi]; exact h.2.2.2.2.2, fun h => ⟨by omega, by omega, by rw [hi]; exact h2, by omega, by omega, by rw [hi]; exact h⟩⟩
  have HF := Aside0.mk hF
  have HO := Aside0.mk (out_some (s := x.f1) HT.out (show (0 : Int) ≤ (i : Int) by omega) h1')
  clear hF
  rw [hi]
  clear hi h2
  go_enter Try.func83, Try.ntmps83
  go_wp2_with (first | ((with_reducible refine gate_dst (N := 2) rfl ?_); refine box_event ?hg (N := 2) ?hd (cs := #[.int .i64 i, .int .i64 x.f1, .int .i64 x.f2]) (t := 25) ?hr ?_; (case hd => rfl); (case hg => rfl); (case hr => first | (go_simp; done) | (go_simp; rfl)); intro gs hg w1 hbox hb; have s0 : w1.cell? ⟨gs, 0, none⟩ = _ := cell_blk hbox rfl; have s1 : w1.cell? ⟨gs, 1, none⟩ = _ := cell_blk hbox rfl; have s2 : w1.cell? ⟨gs, 2, none⟩ = _ := cell_blk hbox rfl; have p0 := pw_cell_below hb b0; have p1 := pw_cell_below hb b1; have p2 := pw_cell_below hb b2; have pt := pw_cell_below hb ct; clear ct; have HB1 := Aside0.mk hb; have HR1 := Aside0.mk (Kd.C_below HR.out hb); clear hb hbox b0 b1 b2 hg) | (go_at_call 84; refine (seeds_out.calls W H _ c C i x.f1 (decide (OutOk W H i x.f1)) _ HR1.out HC.out HO.out).mono ?_; rintro e w2 ⟨rfl, hB⟩; have HB2 := Aside0.mk hB; clear hB))
  go_ret
  exact ⟨by rw [HF.out]; rfl, below_step HB1.out HB2.out⟩

abbrev encS3 (x : Seed) : List Value := [.int .i64 x.f0, .int .i64 x.f1, .int .i64 x.f2]

theorem index_none (A : Option Addr) (c : Nat) (fv : Value) (w : World) : Calls Try.prog 110 #[.slice A 0 c, fv] w fun e w' => e = .returned (.int .i64 (-1)) ∧ w' = w := by
  go_enter Try.func110, Try.ntmps110
  go_wp2
  go_loopg [5, 8] 0 (fun gg _ s8 wr => s8 = .int .i64 0 ∧ wr = w)
  case atStart => exact ⟨rfl, rfl⟩
  case round =>
    obtain ⟨rfl, rfl⟩ := hrel
    go_wp2
    go_ret
    exact ⟨rfl, rfl⟩
theorem any_none (A : Option Addr) (c : Nat) (fv : Value) (w : World) : Calls Try.prog 82 #[.slice A 0 c, fv] w fun e w' => e = .returned (.bool false) ∧ w' = w := by
  go_enter Try.func82, Try.ntmps82
  go_wp2_with (go_at_call 110; refine (index_none _ _ _ _).mono ?_; rintro e w' ⟨rfl, rfl⟩)
  go_ret
  exact ⟨rfl, rfl⟩
theorem any_row (ad : Addr) (c : Nat) (l : List Seed) (p : Seed → Bool) (lb : Array Value) (w : World) (hr : Kd.C k25 w (some ad) l.length l) (hl : 0 < l.length)
    (hp : PredBelow Try.prog 83 lb (fun x => .agg (encS x).toArray) p w) : Calls Try.prog 82 #[.slice (some ad) l.length c, .func (.func 83) #[] lb] w fun e w' => e = .returned (.bool (l.any p)) ∧ Below w.heap.size w w' := by
  have hcell : ∀ j, j < l.length → ∀ i v, (encS l[j]!)[i]? = some v → w.cell? (ad.add (j * 3 + i)) = some v := by
    intro j hj i v hv
    obtain ⟨ad', he, hrr⟩ := hr.2.2 hl
    obtain rfl := Option.some.inj he
    obtain ⟨cs, h1, h2, h3⟩ := hrr j _ (List.getElem?_eq_getElem hj)
    refine h3 i v ?_
    rw [k25_open h2, ← getElem!_pos l j hj]
    exact hv
  have hsp := World.cell?_spot (hcell 0 hl 0 _ rfl)
  obtain ⟨b, off, spot⟩ := ad
  have hs0 : spot = none := by simpa [Addr.add] using hsp
  subst hs0
  have eg : ∀ args w, (callFunc 83 args).run Try.prog w = .ok (.enter 83 args) w := enters_of Try.func83 (by kernel_rfl) rfl
  have hc := AnyQ.slices_ContainsFunc Try.anySeed 3 (fun w => by kernel_rfl) (fun w => by kernel_rfl) encS encS_len p 83 lb eg b off l.length c l w hp (Nat.le_refl _) hr.2.1 (World.block_lt_of_cell? w _ (hcell 0 hl 0 _ rfl) |> fun h => by simpa [Addr.add] using h) (fun j hj i v hv => by
    have := hcell j hj i v hv
    have he : (⟨b, off, none⟩ : Addr).add (j * 3 + i) = ⟨b, off + j * 3 + i, none⟩ := by unfold Addr.add; split <;> simp_all <;> omega
    rwa [he] at this)
  rw [List.take_length] at hc
  exact hc

open Classical in
set_option maxHeartbeats 2000000 in
theorem seedsMay_calls (a0_0 : Int) (a0_1 : Int) (A0_2 : Option Addr) (c0_2 : Nat) (l0_2 : List Int) (A1 : Option Addr) (c1 : Nat) (l1 : List Seed) (r : Bool) (w : World) (hr0_2 : Kd.C (Kd.int .u8) w A0_2 l0_2.length l0_2) (hc0_2 : l0_2.length ≤ c0_2) (hr1 : Kd.C k25 w A1 l1.length l1) (hc1 : l1.length ≤ c1) (h : seedsMayF a0_0 a0_1 l0_2 l1 = some r) :
    Calls Try.prog 39 #[.agg #[.int .i64 a0_0, .int .i64 a0_1, .slice A0_2 l0_2.length c0_2], .slice A1 l1.length c1] w fun e w' => e = .returned (.bool r) ∧ Below w.heap.size w w' := by
  unfold seedsMayF at h
  obtain rfl := Option.some.inj h
  clear h
  have hM := fun (w1 : World) (hb : Below w.heap.size w w1) => tile_May.calls (l0_2.length + 1) a0_0 a0_1 A0_2 c0_2 l0_2 _ w1 (Kd.C_below hr0_2 hb) hc0_2 (tileMay_some a0_0 a0_1 l0_2 _ (by omega))
  have HM := Aside0.mk hM
  have HR0 := Aside0.mk hr0_2
  have HC0 := Aside0.mk hc0_2
  have HR1 := Aside0.mk hr1
  have HC1 := Aside0.mk hc1
  clear hM hr0_2 hc0_2 hr1 hc1
  by_cases ht : TileOk a0_0 a0_1 l0_2
  · have HT := Aside0.mk ht
    have HD := Aside0.mk (decide_eq_true ht)
    rw [HD.out] at HM
    by_cases hl : l1.length = 0
    · have hnil := List.length_eq_zero_iff.1 hl
      subst hnil
      have hres : decide (SeedsOk a0_0 a0_1 l0_2 []) = true := decide_eq_true ⟨ht, fun x hx => by simp at hx⟩
      have HRES := Aside0.mk hres
      clear ht hl hres
      go_enter Try.func39, Try.ntmps39
      go_wp2_with (first | ((with_reducible refine gate_dst (N := 2) rfl ?_); refine box_event ?hg (N := 2) ?hd (cs := tileCells a0_0 a0_1 A0_2 l0_2.length c0_2) (t := 35) ?hr ?_; (case hd => rfl); (case hg => rfl); (case hr => first | (go_simp; done) | (go_simp; rfl)); intro gb hg w1 hbox hb; have b0 : w1.cell? ⟨gb, 0, none⟩ = _ := cell_blk hbox rfl; have b1 : w1.cell? ⟨gb, 1, none⟩ = _ := cell_blk hbox rfl; have b2 : w1.cell? ⟨gb, 2, none⟩ = _ := cell_blk hbox rfl; have HB1 := Aside0.mk hb; have HX := Aside0.mk hbox; clear hb hbox hg) | (go_at_call 81; refine (HM.out _ HB1.out).mono ?_; rintro e w2 ⟨rfl, hb2⟩; have HB2 := Aside0.mk (below_step HB1.out hb2); have HK := Aside0.mk hb2; clear hb2))
      go_at_call 82
      refine (any_none _ _ _ _).mono ?_
      rintro e w' ⟨rfl, rfl⟩
      go_wp2
      go_ret
      exact ⟨by rw [HRES.out]; rfl, HB2.out⟩
    · have hne : 0 < l1.length := by omega
      obtain ⟨ad, rfl⟩ : ∃ ad, A1 = some ad := by obtain ⟨ad, e, _⟩ := HR1.out.2.2 hne; exact ⟨ad, e⟩
      have hres : decide (SeedsOk a0_0 a0_1 l0_2 l1) = !(l1.any (fun x => !decide (SeedOk a0_0 a0_1 l0_2 x))) := by
        rw [Bool.eq_iff_iff, decide_eq_true_iff]
        unfold SeedsOk
        simp [ht]
      have HRES := Aside0.mk hres
      have HNE := Aside0.mk hne
      clear ht hl hres hne
      go_enter Try.func39, Try.ntmps39
      go_wp2_with (first | ((with_reducible refine gate_dst (N := 2) rfl ?_); refine box_event ?hg (N := 2) ?hd (cs := tileCells a0_0 a0_1 A0_2 l0_2.length c0_2) (t := 35) ?hr ?_; (case hd => rfl); (case hg => rfl); (case hr => first | (go_simp; done) | (go_simp; rfl)); intro gb hg w1 hbox hb; have b0 : w1.cell? ⟨gb, 0, none⟩ = _ := cell_blk hbox rfl; have b1 : w1.cell? ⟨gb, 1, none⟩ = _ := cell_blk hbox rfl; have b2 : w1.cell? ⟨gb, 2, none⟩ = _ := cell_blk hbox rfl; have HB1 := Aside0.mk hb; have HX := Aside0.mk hbox; clear hb hbox hg) | (go_at_call 81; refine (HM.out _ HB1.out).mono ?_; rintro e w2 ⟨rfl, hb2⟩; have HB2 := Aside0.mk (below_step HB1.out hb2); have HK := Aside0.mk hb2; clear hb2))
      go_at_call 82
      refine (any_row ad c1 l1 (fun x => !decide (SeedOk a0_0 a0_1 l0_2 x)) _ w2 (Kd.C_below HR1.out HB2.out) HNE.out (fun W x hW => ?_)).mono ?_
      · refine (pred_calls gb a0_0 a0_1 A0_2 c0_2 l0_2 x W ?_ (Kd.C_below (Kd.C_below HR0.out HB2.out) hW) HC0.out HT.out).mono ?_
        · have hlt := blk_lt HX.out
          rw [hW.block gb (Nat.lt_of_lt_of_le hlt HK.out.size), HK.out.block gb hlt]
          exact HX.out
        · rintro e w3 ⟨rfl, hb3⟩
          refine ⟨?_, below_step hW hb3⟩
          congr 2
      rintro e w3 ⟨rfl, hb3⟩
      have HB3 := Aside0.mk (below_step HB2.out hb3)
      clear hb3
      go_wp2
      go_ret
      exact ⟨by rw [HRES.out]; rfl, HB3.out⟩
  · have hres : decide (SeedsOk a0_0 a0_1 l0_2 l1) = false := decide_eq_false (fun h => ht h.1)
    have HRES := Aside0.mk hres
    have HD := Aside0.mk (decide_eq_false ht)
    rw [HD.out] at HM
    clear ht hres
    go_enter Try.func39, Try.ntmps39
    go_wp2_with (first | ((with_reducible refine gate_dst (N := 2) rfl ?_); refine box_event ?hg (N := 2) ?hd (cs := tileCells a0_0 a0_1 A0_2 l0_2.length c0_2) (t := 35) ?hr ?_; (case hd => rfl); (case hg => rfl); (case hr => first | (go_simp; done) | (go_simp; rfl)); intro gb hg w1 hbox hb; have b0 : w1.cell? ⟨gb, 0, none⟩ = _ := cell_blk hbox rfl; have b1 : w1.cell? ⟨gb, 1, none⟩ = _ := cell_blk hbox rfl; have b2 : w1.cell? ⟨gb, 2, none⟩ = _ := cell_blk hbox rfl; have HB1 := Aside0.mk hb; have HX := Aside0.mk hbox; clear hb hbox hg) | (go_at_call 81; refine (HM.out _ HB1.out).mono ?_; rintro e w2 ⟨rfl, hb2⟩; have HB2 := Aside0.mk (below_step HB1.out hb2); have HK := Aside0.mk hb2; clear hb2))
    go_ret
    exact ⟨by rw [HRES.out]; rfl, HB2.out⟩
end Go.Proofs.Ytgcfcemgeppkmaa.P
