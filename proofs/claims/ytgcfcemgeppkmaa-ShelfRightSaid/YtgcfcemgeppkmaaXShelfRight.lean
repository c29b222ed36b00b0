/-
  herdsmanlaw19.ShelfRight: as long as a version stands for one tile, what is told is the field of what is asked.
-/
import Derived.Test.YtgcfcemgeppkmaaXAsk
namespace Go.Proofs.Ytgcfcemgeppkmaa.P
open Go.RowKit Go.Proofs.YtgcfcemgeppkmaaW.PrintWords Go.Proofs.YtgcfcemgeppkmaaW.PrintLast Go.Proofs.YtgcfcemgeppkmaaW.PrintMore
open Go.Proofs.Ytgcfcemgeppkmaa.Ord Go.Proofs.Ytgcfcemgeppkmaa.Dist
set_option linter.unusedVariables false
set_option linter.unusedSimpArgs false
attribute [local go_sem] max2_int min2_int max_two min_two max_three min_three max_four min_four
theorem heapAtI (w : World) (o : Obj) (k : Nat) (h : k = w.heap.size) : (w.alloc o).heap[k]? = some o := by
  subst h
  exact heap_alloc_new w o
/-- The shelf between two calls. -/
structure RL (w wr : World) (sb lb mb : Nat) (k : Int) (tile : Int → Int → Int → Int → List Int → Prop) (i : Nat) : Prop where
  ex : ∃ (own : Nat → Prop) (sv : Value) (seats : List Seat) (nw od : Int) (D : DataW Unit) (ord : List Nat) (fv : Value) (kvs : List Kv) (kps : List Kept) (c : Cnt), ShelfM wr own sb lb k sv mb seats nw od D ord fv kvs kps c ∧ (∀ b, own b → w.heap.size ≤ b ∧ b < wr.heap.size) ∧ c.upto i ∧ (seats.length ≤ i ∧ kvs.length = seats.length) ∧ RightI tile seats.length (keyF seats) kps
  below : Below w.heap.size w wr
theorem RL.step {w wr w' : World} {sb lb mb : Nat} {k : Int} {tile : Int → Int → Int → Int → List Int → Prop} {i : Nat} (h : RL w wr sb lb mb k tile i) (hb : Below wr.heap.size wr w') : RL w w' sb lb mb k tile i := by
  obtain ⟨⟨own, sv, seats, nw, od, D, ord, fv, kvs, kps, c, h1, h2, h3⟩, h4⟩ := h
  exact ⟨⟨own, sv, seats, nw, od, D, ord, fv, kvs, kps, c, h1.below hb, fun b hbb => ⟨(h2 b hbb).1, Nat.lt_of_lt_of_le (h2 b hbb).2 hb.size⟩, h3⟩, below_step h4 hb⟩
theorem RL.got {w wr w8 X w11 : World} {own : Nat → Prop} {sb lb mb : Nat} {k : Int} {seats s' : List Seat} {ord ord' : List Nat} {kvs kvs' : List Kv} {kps kps' : List Kept} {c c' : Cnt} {sv' fv' : Value} {nw' od' : Int} {D' : DataW Unit} {tile : Int → Int → Int → Int → List Int → Prop} {i N slot : Nat} {had out : Bool} {a b ver W H : Int} {C : List Int} {s : List Seed} {dist dirs : List Int}
    (hB8 : Below wr.heap.size wr w8) (hX : Below w8.heap.size w8 X) (hBW : Below w.heap.size w wr) (hown : ∀ b, own b → w.heap.size ≤ b ∧ b < wr.heap.size) (hcu : c.upto i) (hsl : seats.length ≤ i ∧ kvs.length = seats.length) (hRI : RightI tile seats.length (keyF seats) kps) (hone : ∀ W' H' C', tile b ver W' H' C' → W' = W ∧ H' = H ∧ C' = C) (ht : tile b ver W H C)
    (hm : ShelfM w11 (ownN own X.heap.size N) sb lb k sv' mb s' nw' od' D' ord' fv' kvs' kps' c') (hn : N ≤ w11.heap.size) (hwn : X.heap.size ≤ N) (hl : kvs'.length = s'.length) (hc : Chg own X w11) (hg : GotS seats.length k (keyF seats) ord kps c a b ver s (distOf W C s) (dirsOf W H C s) s'.length (keyF s') ord' kps' c' dist dirs slot had out) :
    dist = distOf W C s ∧ dirs = dirsOf W H C s ∧ RL w w11 sb lb mb k tile (i + 1) ∧ ∀ x o, X.heap[x]? = some o → wr.heap.size ≤ x → ∀ w', Chg (fun y => y = x) w11 w' → RL w w' sb lb mb k tile (i + 1) := by
  have hlt : ∀ x o, X.heap[x]? = some o → x < X.heap.size := fun x o h => blk_lt h
  obtain ⟨r1, r2, r3⟩ := hg.right hone ht hRI
  obtain ⟨c1, c2⟩ := hg.counts hcu
  have z1 := hB8.size
  have z2 := hX.size
  have z3 := hBW.size
  have z4 := hc.size
  have ho : ∀ b, ownN own X.heap.size N b → w.heap.size ≤ b ∧ b < w11.heap.size := fun b hb => by
    rcases hb with hb | hb
    · have := hown b hb
      omega
    · omega
  have hch : Chg (fun b => w.heap.size ≤ b) w w11 := by
    have h1 := below_step (below_step hBW hB8) hX
    exact (Chg.of_below h1 (fun b => w.heap.size ≤ b)).then_ hc (fun b hb => .inl (hown b hb).1)
  refine ⟨r1, r2, ⟨⟨_, _, _, _, _, _, _, _, _, _, _, hm, ho, c1, ⟨by have := hsl.1; omega, hl⟩, r3⟩, hch.below (fun k hk => hk) (Nat.le_refl _)⟩, fun x o hx hw w' hc' => ?_⟩
  have hxl := hlt x o hx
  refine ⟨⟨_, _, _, _, _, _, _, _, _, _, _, hm.chg hc' (fun b hb e => ?_), fun b hb => ⟨(ho b hb).1, Nat.lt_of_lt_of_le (ho b hb).2 hc'.size⟩, c1, ⟨by have := hsl.1; omega, hl⟩, r3⟩, (hch.then_ hc' (fun b hb => .inl (show w.heap.size ≤ b by have e : b = x := hb; omega))).below (fun k hk => hk) (Nat.le_refl _)⟩
  have e' : b = x := e
  rcases hb with hb | hb
  · have := (hown b hb).2
    omega
  · omega
theorem Handed3.weak {w : World} {own own' : Nat → Prop} {At : Option Addr} {ct : Nat} {C : List Int} {As : Option Addr} {cs : Nat} {s : List Seed} (h : Handed3 w own' At ct C As cs s) (ho : ∀ b, own b → own' b) : Handed3 w own At ct C As cs s :=
  { h with farT := fun ad e h0 hb => h.farT ad e h0 (ho _ hb), farS := fun ad e h0 hb => h.farS ad e h0 (ho _ hb) }
theorem rd_mem {l : List Ask} {i : Nat} (h : i < l.length) : rd_T72 l (i : Int) ∈ l := by
  unfold rd_T72
  rw [Int.toNat_natCast, List.getD_eq_getElem?_getD, List.getElem?_eq_getElem h]
  exact List.getElem_mem h
theorem within_rng (x : Int) (n : Int) (h : 0 ≤ n) (hn : n ≤ 1000) (lo : Int) (hl : 0 ≤ lo ∧ lo ≤ 1000) : ∃ a : Int, herdsmanref1_Within.f x lo (lo + n) = some a ∧ lo ≤ a ∧ a ≤ lo + n := by
  refine ⟨_, within_some x (by omega) (by omega) (by omega), ?_, ?_⟩
  · have := Int.emod_nonneg x (show lo + n - lo + 1 ≠ 0 by omega)
    omega
  · have := Int.emod_lt_of_pos x (show 0 < lo + n - lo + 1 by omega)
    omega
set_option maxRecDepth 100000 in
set_option maxHeartbeats 8000000 in
theorem shelfRight_calls (a0 : Int) (A1 : Option Addr) (c1 : Nat) (l1 : List Int) (A2 : Option Addr) (c2 : Nat) (l2 : List Ask) (w : World) (hr1 : Kd.C (Kd.int .u8) w A1 l1.length l1) (hc1 : l1.length ≤ c1) (hr2 : Kd.C kAsk w A2 l2.length l2) (hc2 : l2.length ≤ c2) (h1 : l1.length ≤ 140737488355328) (hb1 : ∀ x ∈ l1, 0 ≤ x ∧ x ≤ 255) (hok : ∀ x, x ∈ l2 → x.ok) :
    Calls Try.prog 23 #[.int .i64 a0, .slice A1 l1.length c1, .slice A2 l2.length c2] w fun e w' => e = .returned (.bool true) ∧ Below w.heap.size w w' := by
  have HR1 := Aside0.mk hr1
  have HC1 := Aside0.mk hc1
  have HR2 := Aside0.mk hr2
  have HC2 := Aside0.mk hc2
  have HOK := Aside0.mk hok
  have HB1 := Aside0.mk (And.intro h1 hb1)
  obtain ⟨k, hwk, hk1, hk5⟩ := within_rng a0 4 (by omega) (by omega) 1 (by omega)
  have HWK := Aside0.mk (show herdsmanref1_Within.f a0 1 5 = some k from hwk)
  have HK1 := Aside0.mk hk1
  clear hr1 hc1 hr2 hc2 h1 hb1 hok hwk hk1 hk5
  obtain ⟨tile, htile⟩ : ∃ t : Int → Int → Int → Int → List Int → Prop, t = fun b ver W H C => herdsmanref1_MadeTile.f 2000 (2 + b) (3 + ver) l1 = some (W, H, C) := ⟨_, rfl⟩
  have HTILE := Aside0.mk htile
  clear htile
  go_enter Try.func23, Try.ntmps23
  go_upto_region 4 with (first
    | (go_at_call 34; refine (herdsmanref1_Within.calls a0 1 5 k _ HWK.out).mono ?_; rintro e w0 ⟨rfl, hd⟩; have HB0 := Aside0.mk hd.below; clear hd)
    | (go_at_call 64; refine (newS_calls k HK1.out _).mono ?_; rintro e w1 ⟨sb, lb, mb, rfl, hs, hb⟩; have HS1 := Aside0.mk hs; have HB1 := Aside0.mk hb; clear hs hb))
  have hst : RL w w1 sb lb mb k tile 0 := ⟨⟨_, _, _, _, _, _, _, _, _, _, _, HS1.out, fun b hb => ⟨Nat.le_trans HB0.out.size hb.1, hb.2⟩, by unfold Cnt.upto cnt0; simp, ⟨Nat.le_refl _, rfl⟩, fun j hj => absurd hj (by simp)⟩, below_step HB0.out HB1.out⟩
  have HST := Aside0.mk hst
  clear hst HS1 HB0 HB1
  go_wp2_with fail
  go_loopg [8] 40 (fun gg v8 wr => ∃ i : Nat, v8 = .int .i64 i ∧ i ≤ 40 ∧ 40 - i ≤ gg ∧ Aside0 (RL w wr sb lb mb k tile i))
  case atStart => exact ⟨0, rfl, by omega, by omega, HST⟩
  case round =>
    obtain ⟨i, rfl, hi, hgg, HRL⟩ := hrel
    by_cases hlt : i < l2.length ∧ i < 40
    · obtain ⟨hlt1, hlt2⟩ := hlt
      have d1 : (i : Int) < (l2.length : Int) := by omega
      have d2 : (i : Int) < 40 := by omega
      have hi0 : (0 : Int) ≤ (i : Int) := by omega
      obtain ⟨⟨own, sv, seats, nw, od, D, ord, fv, kvs, kps, c, hM, hown, hcu, hsl, hRI⟩, hB⟩ := HRL.out
      obtain ⟨ad, A4, c4, hA, y0, y1, y2, y3, y4, hl4, hC4⟩ := at_T72 (Kd.C_below HR2.out hB) (i : Int) (by omega) (by omega)
      have hqok := HOK.out _ (rd_mem hlt1)
      rw [Int.toNat_natCast] at y0 y1 y2 y3 y4
      generalize rd_T72 l2 (i : Int) = q at *
      subst hA
      obtain ⟨a, hwa, ha0, ha3⟩ := within_rng q.f1 3 (by omega) (by omega) 0 (by omega)
      obtain ⟨b, hwb, hb0, hb2⟩ := within_rng q.f2 2 (by omega) (by omega) 0 (by omega)
      obtain ⟨ver, hwv, hv0, hv2⟩ := within_rng q.f3 2 (by omega) (by omega) 0 (by omega)
      obtain ⟨W, H, C, hMT, ht, hC⟩ := madeTile_some (2 + b) (3 + ver) l1 HB1.out.2 HB1.out.1
      obtain ⟨lf, hlf⟩ : ∃ lf, lf = q.f4.take (min q.f4.length 4) := ⟨_, rfl⟩
      have hlen : lf.length = min q.f4.length 4 := by rw [hlf, List.length_take]; omega
      have hse := seeds_some ht lf (by omega)
      obtain ⟨s, hs⟩ : ∃ s, s = seedsOf W H C lf := ⟨_, rfl⟩
      have hsok : SeedsOk W H C s := by rw [hs]; exact seedsOf_ok ht lf
      have hsl4 : s.length ≤ 4 := by rw [hs]; exact Nat.le_trans (seedsOf_len W H C lf) (by omega)
      rw [← hs] at hse
      have hCL : C.length ≤ 256 := by
        have hm := mul_small ⟨ht.1, ht.2.1⟩ ⟨ht.2.2.1, ht.2.2.2.1⟩
        have := ht.2.2.2.2.1
        omega
      have HM0 := Aside0.mk hM
      have HOWN := Aside0.mk hown
      have HCU := Aside0.mk hcu
      have HSL := Aside0.mk hsl
      have HRI := Aside0.mk hRI
      have HBW := Aside0.mk hB
      have HWA := Aside0.mk (show herdsmanref1_Within.f q.f1 0 3 = some a from hwa)
      have HWB := Aside0.mk (show herdsmanref1_Within.f q.f2 0 2 = some b from hwb)
      have HWV := Aside0.mk (show herdsmanref1_Within.f q.f3 0 2 = some ver from hwv)
      have HAB : Aside0 (W64 a ∧ W64 b) := ⟨⟨by omega, by omega⟩, ⟨by omega, by omega⟩⟩
      have HMT := Aside0.mk (hMT 2000 (by omega))
      have HSE := Aside0.mk hse
      have HSO := Aside0.mk hsok
      have HS4 := Aside0.mk hsl4
      have HCL := Aside0.mk (And.intro hCL hC)
      have HC4 := Aside0.mk hC4
      have HI := Aside0.mk (And.intro hi (And.intro hgg (And.intro hlt1 hlt2)))
      have HLF : Aside0 (∀ wx, Kd.C (Kd.int .i64) wx A4 q.f4.length q.f4 → Kd.C (Kd.int .i64) wx A4 lf.length lf) := ⟨fun wx h => by rw [hlf]; exact Kd.C_take h (by omega)⟩
      obtain ⟨ji, hji⟩ : ∃ j : Int, j = (lf.length : Int) := ⟨_, rfl⟩
      have hmin2 : (if (4 : Int) < (q.f4.length : Int) then (4 : Int) else (q.f4.length : Int)) = ji := by rw [hji]; split <;> omega
      obtain ⟨i05, hi05, _, _, _⟩ := info_parts info3
      have hcut1 := cut_to (P := Try.prog) 36 3 .i64 Try.underlying36 hi05 A4 q.f4.length c4 ji (by omega) (by omega) hl4
      rw [show ji.toNat = lf.length by omega] at hcut1
      have HFC : Aside0 (lf.length ≤ c4) := ⟨by omega⟩
      have w2b : wrap64 (2 + b) = 2 + b := w64 (by omega) (by omega)
      have w3v : wrap64 (3 + ver) = 3 + ver := w64 (by omega) (by omega)
      have i2b : IntKind.i64.wrap (2 + b) = 2 + b := by rw [IntKind.wrap_i64]; omega
      have i3v : IntKind.i64.wrap (3 + ver) = 3 + ver := by rw [IntKind.wrap_i64]; omega
      clear hM hown hcu hsl hRI hB hwa hwb hwv ha0 ha3 hb0 hb2 hv0 hv2 hMT ht hC hlf hlen hse hs hsok hsl4 hCL hl4 hC4 hqok hji hi05 hi hgg HRL
      go_upto_region 8 with ((with_reducible refine gate_dst (N := 9) rfl ?_); refine box_event ?hg (N := 9) ?hd (cs := #[.int .i64 0, .int .i64 0, .int .i64 0, .int .i64 0, .slice none 0 0]) (t := 72) ?hr ?_; (case hd => rfl); (case hg => rfl); (case hr => first | (go_simp; done) | (go_simp; rfl)); intro gq hg w2 hbox hb; have x0 : w2.cell? ⟨gq, 0, none⟩ = _ := cell_blk hbox rfl; have f0 := free_blk hbox 0; have x1 : w2.cell? ⟨gq, 1, none⟩ = _ := cell_blk hbox rfl; have f1 := free_blk hbox 1; have x2 : w2.cell? ⟨gq, 2, none⟩ = _ := cell_blk hbox rfl; have f2 := free_blk hbox 2; have x3 : w2.cell? ⟨gq, 3, none⟩ = _ := cell_blk hbox rfl; have f3 := free_blk hbox 3; have x4 : w2.cell? ⟨gq, 4, none⟩ = _ := cell_blk hbox rfl; have f4 := free_blk hbox 4; have HQ2 := Aside0.mk hbox; have HGQ : Aside0 (wr.heap.size ≤ gq) := ⟨by rw [hg]; exact Nat.le_refl _⟩; have HB2 := Aside0.mk hb; clear hb hbox hg)
      obtain ⟨w3, hw3⟩ : ∃ w3, w3 = (((((w2.setCell ⟨gq, 0, none⟩ (.int .i64 q.f0)).setCell ⟨gq, 1, none⟩ (.int .i64 q.f1)).setCell ⟨gq, 2, none⟩ (.int .i64 q.f2)).setCell ⟨gq, 3, none⟩ (.int .i64 q.f3)).setCell ⟨gq, 4, none⟩ (.slice A4 q.f4.length c4)) := ⟨_, rfl⟩
      rw [← hw3]
      have hB3 : Below wr.heap.size wr w3 := by
        rw [hw3]
        exact ((((((Chg.of_below HB2.out (fun b => wr.heap.size ≤ b)).set_ (p := ⟨gq, 0, none⟩) (.inl HGQ.out) _).set_ (p := ⟨gq, 1, none⟩) (.inl HGQ.out) _).set_ (p := ⟨gq, 2, none⟩) (.inl HGQ.out) _).set_ (p := ⟨gq, 3, none⟩) (.inl HGQ.out) _).set_ (p := ⟨gq, 4, none⟩) (.inl HGQ.out) _).below (fun k hk => hk) (Nat.le_refl _)
      have hQ3 : w3.heap[gq]? = some (.cells #[.int .i64 q.f0, .int .i64 q.f1, .int .i64 q.f2, .int .i64 q.f3, .slice A4 q.f4.length c4] 72 (0, 0)) := by rw [hw3]; exact set_blk (set_blk (set_blk (set_blk (set_blk HQ2.out 0 _) 1 _) 2 _) 3 _) 4 _
      have q1 := cell_blk (j := 1) (u := .int .i64 q.f1) hQ3 rfl
      have q2 := cell_blk (j := 2) (u := .int .i64 q.f2) hQ3 rfl
      have q3 := cell_blk (j := 3) (u := .int .i64 q.f3) hQ3 rfl
      have q4 := cell_blk (j := 4) (u := .slice A4 q.f4.length c4) hQ3 rfl
      have HQ3 := Aside0.mk hQ3
      have HB3 := Aside0.mk hB3
      clear hw3 hB3 hQ3 x0 x1 x2 x3 x4 f0 f1 f2 f3 f4 HQ2 HB2 y0 y1 y2 y3 y4
      go_quiet (first
        | (go_at_call_of 34 (q.f2); refine (herdsmanref1_Within.calls q.f2 0 2 b _ HWB.out).mono ?_; rintro e w' ⟨rfl, ⟨nd, rfl⟩⟩; exact ⟨rfl, _, World.drewN_drewN _ _ _⟩)
        | (go_at_call_of 34 (q.f3); refine (herdsmanref1_Within.calls q.f3 0 2 ver _ HWV.out).mono ?_; rintro e w' ⟨rfl, ⟨nd, rfl⟩⟩; exact ⟨rfl, _, World.drewN_drewN _ _ _⟩))
      have HQ4 := Aside0.mk (blk_step HQ3.out (pw_below_drewN (Below.refl _ _) nq))
      have HB4 : Aside0 (Below wr.heap.size wr (w3.drewN nq)) := ⟨pw_below_drewN HB3.out _⟩
      generalize w3.drewN nq = w4 at *
      clear q1 q2 q3 q4 HB3 HQ3
      go_wp2_with fail
      go_upto_region 10 with (first
        | (go_at_call 37; refine (herdsmanref1_MadeTile.calls 2000 (2 + b) (3 + ver) A1 c1 l1 W H C _ (Kd.C_below (Kd.C_below HR1.out HBW.out) HB4.out) HC1.out HMT.out).mono ?_; rintro e w5 ⟨v5, rfl, ho, hb⟩; obtain ⟨At, ct, rfl⟩ := Kd.R_slice ho; have HB5 := Aside0.mk hb; have HO5 := Aside0.mk ho; have HQ5 := Aside0.mk (blk_step HQ4.out hb); clear hb ho)
        | ((with_reducible refine gate_dst (N := 12) rfl ?_); refine box_event ?hg (N := 12) ?hd (cs := #[.int .i64 0, .int .i64 0, .slice none 0 0]) (t := 35) ?hr ?_; (case hd => rfl); (case hg => rfl); (case hr => first | (go_simp; done) | (go_simp; rfl)); intro gt hg w6 hbox hb; have y0 : w6.cell? ⟨gt, 0, none⟩ = _ := cell_blk hbox rfl; have f0 := free_blk hbox 0; have y1 : w6.cell? ⟨gt, 1, none⟩ = _ := cell_blk hbox rfl; have f1 := free_blk hbox 1; have y2 : w6.cell? ⟨gt, 2, none⟩ = _ := cell_blk hbox rfl; have f2 := free_blk hbox 2; have HX6 := Aside0.mk hbox; have HG6 : Aside0 (w5.heap.size ≤ gt) := ⟨by rw [hg]; exact Nat.le_refl _⟩; have HB6 := Aside0.mk hb; clear hb hbox hg))
      obtain ⟨w7, hw7⟩ : ∃ w7, w7 = (((w6.setCell ⟨gt, 0, none⟩ (.int .i64 W)).setCell ⟨gt, 1, none⟩ (.int .i64 H)).setCell ⟨gt, 2, none⟩ (.slice At C.length ct)) := ⟨_, rfl⟩
      rw [← hw7]
      have hX7 : w7.heap[gt]? = some (.cells #[.int .i64 W, .int .i64 H, .slice At C.length ct] 35 (0, 0)) := by rw [hw7]; exact set_blk (set_blk (set_blk HX6.out 0 _) 1 _) 2 _
      have hB7 : Below w5.heap.size w5 w7 := by
        rw [hw7]
        exact ((((Chg.of_below HB6.out (fun k => w5.heap.size ≤ k)).set_ (p := ⟨gt, 0, none⟩) (.inl HG6.out) _).set_ (p := ⟨gt, 1, none⟩) (.inl HG6.out) _).set_ (p := ⟨gt, 2, none⟩) (.inl HG6.out) _).below (fun k hk => hk) (Nat.le_refl _)
      have hQ7 := blk_step HQ5.out hB7
      have HQ7 := Aside0.mk hQ7
      have z4 := cell_blk (j := 4) (u := .slice A4 q.f4.length c4) hQ7 rfl
      have HX7 := Aside0.mk hX7
      have HO7 := Aside0.mk (Kd.R_below HO5.out hB7)
      have HB7 : Aside0 (Below wr.heap.size wr w7) := ⟨below_step (below_step HB4.out HB5.out) hB7⟩
      have HGT : Aside0 (wr.heap.size ≤ gt) := ⟨by have h1 := HB5.out.size; have h2 := HG6.out; have h3 := HB4.out.size; omega⟩
      have HS47 : Aside0 (w4.heap.size ≤ w7.heap.size ∧ wr.heap.size ≤ w4.heap.size) := ⟨⟨by have h1 := HB5.out.size; have h2 := hB7.size; omega, HB4.out.size⟩⟩
      have t0 := cell_blk (j := 0) (u := .int .i64 W) hX7 rfl
      have t1 := cell_blk (j := 1) (u := .int .i64 H) hX7 rfl
      have t2 := cell_blk (j := 2) (u := .slice At C.length ct) hX7 rfl
      clear hw7 hB7 hX7 hQ7 y0 y1 y2 f0 f1 f2 HX6 HG6 HB6 HB5 HO5 HQ4 HQ5
      go_region_held3 (fun w' => w'.cell? ⟨gt, 0, none⟩ = some (.int .i64 W) ∧ w'.cell? ⟨gt, 1, none⟩ = some (.int .i64 H) ∧ w'.cell? ⟨gt, 2, none⟩ = some (.slice At C.length ct) ∧ w'.cell? ⟨gq, 4, none⟩ = some (.slice A4 q.f4.length c4))
        (first | exact ⟨t0, t1, t2, z4⟩ | exact ⟨u0, u1, u2, u4⟩ | go_keep)
        (first
          | (go_at_call 38; refine (herdsmanref7_Seeds.calls W H At ct C A4 c4 lf s _ (Kd.C_drew (R_C HO7.out).1) (R_C HO7.out).2 (HLF.out _ (Kd.C_drew (Kd.C_below HC4.out HB7.out))) HFC.out HSE.out).mono ?_; rintro e w8 ⟨v8, rfl, ho, hb⟩; obtain ⟨As, cs, rfl⟩ := Kd.R_slice ho; have u0 := pw_cell_below hb (a := ⟨gt, 0, none⟩) (v := .int .i64 W) t0; have u1 := pw_cell_below hb (a := ⟨gt, 1, none⟩) (v := .int .i64 H) t1; have u2 := pw_cell_below hb (a := ⟨gt, 2, none⟩) (v := .slice At C.length ct) t2; have u4 := pw_cell_below hb (a := ⟨gq, 4, none⟩) (v := .slice A4 q.f4.length c4) z4; have HB8 := Aside0.mk (below_step (below_drew1 (Below.refl _ _)) hb); have HO8 := Aside0.mk ho; clear hb ho))
      rename_i hHeld
      clear hHeld
      clear t0 t1 t2 u0 u1 u2 u4 z4
      have hX8 := blk_step HX7.out HB8.out
      have hQ8 := blk_step HQ7.out HB8.out
      have HX8 := Aside0.mk hX8
      have hs78 := HB8.out.size
      have hT8 := Kd.R_below HO7.out HB8.out
      have hz47 := HS47.out
      have hA8 : Handed3 w8 (fun b => own b ∨ b = w8.heap.size) At ct C As cs s :=
        Handed3.of_rows hT8 HO8.out (fun b hb hlt => by
          have h1 : b < wr.heap.size := hb.elim (fun h => (HOWN.out b h).2) (fun h => by omega)
          refine ⟨fun h2 _ => by omega, fun h2 _ => ?_⟩
          have h3 : w7.heap.size ≤ b := h2
          omega) HCL.out.2 (by have h1 := HCL.out.1; have h2 := HS4.out; omega)
      have HB08 : Aside0 (Below wr.heap.size wr w8) := ⟨below_step HB7.out HB8.out⟩
      have HM8 := Aside0.mk (HM0.out.below HB08.out)
      have HT8 := Aside0.mk (R_C hT8)
      have HO8C := Aside0.mk (R_C HO8.out)
      have HA8 := Aside0.mk hA8
      have HGL : Aside0 (gt < w8.heap.size ∧ gq < w8.heap.size ∧ wr.heap.size ≤ gt ∧ wr.heap.size ≤ gq ∧ wr.heap.size ≤ w8.heap.size) := ⟨⟨blk_lt hX8, blk_lt hQ8, HGT.out, HGQ.out, HB08.out.size⟩⟩
      have HQ8 := Aside0.mk hQ8
      have hnt : gt ≠ w8.heap.size := Nat.ne_of_lt (blk_lt hX8)
      have hnq : gq ≠ w8.heap.size := Nat.ne_of_lt (blk_lt hQ8)
      have HNT := Aside0.mk hnt
      have HNQ := Aside0.mk hnq
      have HR8 : Aside0 (Below w8.heap.size w8 w8) := ⟨Below.refl _ _⟩
      have HONE : Aside0 (∀ W' H' C', tile b ver W' H' C' → W' = W ∧ H' = H ∧ C' = C) := ⟨fun W' H' C' h => by
        rw [HTILE.out] at h
        have h1 := h.symm.trans HMT.out
        injection h1 with h1
        injection h1 with h1 h2
        injection h2 with h2 h3
        exact ⟨h1, h2, h3⟩⟩
      have HTL : Aside0 (tile b ver W H C) := ⟨by rw [HTILE.out]; exact HMT.out⟩
      have t0 := cell_blk (j := 0) (u := .int .i64 W) hX8 rfl
      have t1 := cell_blk (j := 1) (u := .int .i64 H) hX8 rfl
      have t2 := cell_blk (j := 2) (u := .slice At C.length ct) hX8 rfl
      have z1 := cell_blk (j := 1) (u := .int .i64 q.f1) hQ8 rfl
      clear hX8 hQ8 hs78 hT8 hz47 hA8 hnt hnq HX7 HQ7 HO7 HS47 HB7 HB8 HO8 hmin2 hcut1 HLF HFC HC4 w2b w3v i2b i3v
      go_upto_region 11 with fail
      go_cut [14, 15] (fun v14 v15 wc => ∃ (gf : Nat) (Ad : Option Addr) (cd : Nat) (Ae : Option Addr) (ce : Nat), v14 = .pointer (some ⟨gf, 0, none⟩) ∧ v15 = .int .i64 0 ∧ Aside0 (wc.heap[gf]? = some (.cells #[.slice Ad (distOf W C s).length cd, .slice Ae (dirsOf W H C s).length ce] 60 (0, 0))) ∧ Aside0 (Kd.C (Kd.int .i64) wc Ad (distOf W C s).length (distOf W C s) ∧ (distOf W C s).length ≤ cd) ∧ Aside0 (Kd.C (Kd.int .i64) wc Ae (dirsOf W H C s).length (dirsOf W H C s) ∧ (dirsOf W H C s).length ≤ ce) ∧ Aside0 (RL w wc sb lb mb k tile (i + 1)) ∧ Aside0 (wc.heap[gt]? = some (.cells #[.int .i64 W, .int .i64 H, .slice At C.length ct] 35 (0, 0))) ∧ Aside0 (Kd.C (Kd.int .u8) wc At C.length C ∧ C.length ≤ ct) ∧ Aside0 (Kd.C k25 wc As s.length s ∧ s.length ≤ cs))
      case first =>
        go_region_held3 (fun w' => w'.cell? ⟨gt, 0, none⟩ = some (.int .i64 W) ∧ w'.cell? ⟨gt, 1, none⟩ = some (.int .i64 H) ∧ w'.cell? ⟨gt, 2, none⟩ = some (.slice At C.length ct) ∧ w'.cell? ⟨gq, 1, none⟩ = some (.int .i64 q.f1))
          (first | exact ⟨t0, t1, t2, z1⟩ | exact ⟨u0, u1, u2, u3⟩ | (refine ⟨pw_cell_below ?_ u0, pw_cell_below ?_ u1, pw_cell_below ?_ u2, pw_cell_below ?_ u3⟩ <;> exact below_alloc (Below.refl _ _) _) | exact ⟨(cfar HNT.out _).trans ((cfar HNT.out _).trans u0), (cfar HNT.out _).trans ((cfar HNT.out _).trans u1), (cfar HNT.out _).trans ((cfar HNT.out _).trans u2), (cfar HNQ.out _).trans ((cfar HNQ.out _).trans u3)⟩ | (refine ⟨pw_cell_below ?_ t0, pw_cell_below ?_ t1, pw_cell_below ?_ t2, pw_cell_below ?_ z1⟩ <;> ((repeat (first | exact HR8.out | apply below_alloc | apply pw_below_drewN | apply below_drew1)); done)) | go_keep)
          (first
            | (go_at_call 34; refine (herdsmanref1_Within.calls q.f1 0 3 a _ HWA.out).mono ?_; rintro e w9 ⟨rfl, ⟨nd, rfl⟩⟩)
            | (go_at_call 65; refine (get_calls (HM8.out.below (by (repeat (first | exact HR8.out | apply below_alloc | apply pw_below_drewN | apply below_drew1)))) (fun b hb => Nat.lt_of_lt_of_le (show b < w8.heap.size by have h1 := (HOWN.out b hb).2; have h2 := HGL.out; omega) (Below.size (B := w8.heap.size) (w := w8) (by (repeat (first | exact HR8.out | apply below_alloc | apply pw_below_drewN | apply below_drew1))))) HSL.out.2 HAB.out.1 HAB.out.2 (by have h1 := HSL.out; have h2 := HI.out; omega) (Cnt.upto_ok HCU.out (by have h2 := HI.out; omega)) ((HA8.out.weak (fun _ h => .inl h)).chg (Chg.of_below (by (repeat (first | exact HR8.out | apply below_alloc | apply pw_below_drewN | apply below_drew1))) _)) HSO.out).mono ?_; rintro e w11 ⟨d11, r11, Ad, cd, Ae, ce, rfl, sv11, s11, nw11, od11, D11, ord11, fv11, kvs11, kps11, c11, N11, sl11, had11, out11, hm, hn, hwn, hl, hc, hd, hr, hg⟩; obtain ⟨e1, e2, hrl, hre⟩ := RL.got HB08.out (by (repeat (first | exact HR8.out | apply below_alloc | apply pw_below_drewN | apply below_drew1))) HBW.out HOWN.out HCU.out HSL.out HRI.out HONE.out HTL.out hm hn hwn hl hc hg; subst e1; subst e2; have HRL11 := Aside0.mk hrl; have HD11 := Aside0.mk hd; have HE11 := Aside0.mk hr; have hx11 := hc.blk (blk_step HX8.out (by (repeat (first | exact HR8.out | apply below_alloc | apply pw_below_drewN | apply below_drew1)))) (fun e => by have h1 := (HOWN.out _ e).2; have h2 := HGL.out; omega); have hq11 := hc.blk (blk_step HQ8.out (by (repeat (first | exact HR8.out | apply below_alloc | apply pw_below_drewN | apply below_drew1)))) (fun e => by have h1 := (HOWN.out _ e).2; have h2 := HGL.out; omega); have HX11 := Aside0.mk hx11; have u0 := cell_blk (j := 0) (u := .int .i64 W) hx11 rfl; have u1 := cell_blk (j := 1) (u := .int .i64 H) hx11 rfl; have u2 := cell_blk (j := 2) (u := .slice At C.length ct) hx11 rfl; have u3 := cell_blk (j := 1) (u := .int .i64 q.f1) hq11 rfl; have HH11 := Aside0.mk (HA8.out.chg ((Chg.of_below (by (repeat (first | exact HR8.out | apply below_alloc | apply pw_below_drewN | apply below_drew1))) _).trans (hc.mono (fun _ h => .inl h)))); (try (have yb0 : w11.heap[w8.heap.size]? = some (Obj.cells #[.slice none 0 0, .slice none 0 0] 60 (0, 0)) := hc.blk (by (first | (refine heapAtI _ _ _ ?_; (first | rfl | (simp only [World.size_alloc, World.size_drew, World.heap_drewN]; done) | (simp only [World.size_alloc, World.size_drew, World.heap_drewN]; omega))) | (refine blk_alloc (heapAtI _ _ _ ?_) _; (first | rfl | (simp only [World.size_alloc, World.size_drew, World.heap_drewN]; done) | (simp only [World.size_alloc, World.size_drew, World.heap_drewN]; omega))))) (fun e => by have h1 := (HOWN.out _ e).2; have h2 := HGL.out; omega); have yrl := Aside0.mk (hre w8.heap.size (Obj.cells #[.slice none 0 0, .slice none 0 0] 60) (by (first | (refine heapAtI _ _ _ ?_; (first | rfl | (simp only [World.size_alloc, World.size_drew, World.heap_drewN]; done) | (simp only [World.size_alloc, World.size_drew, World.heap_drewN]; omega))) | (refine blk_alloc (heapAtI _ _ _ ?_) _; (first | rfl | (simp only [World.size_alloc, World.size_drew, World.heap_drewN]; done) | (simp only [World.size_alloc, World.size_drew, World.heap_drewN]; omega))))) HGL.out.2.2.2.2); have ybc := cell_blk (j := 0) (u := .slice none 0 0) yb0 rfl; have ybd := cell_blk (j := 1) (u := .slice none 0 0) yb0 rfl; have ybe := free_blk yb0 0; have ybf := free_blk yb0 1)); clear hm hn hwn hl hc hd hr hg hrl hre hx11 hq11))
        all_goals (try go_wp2_with fail)
        all_goals go_meet
        all_goals first
          | exact ⟨_, Ad, cd, Ae, ce, rfl, rfl, ⟨heapAtI _ _ _ rfl⟩, ⟨R_C (Kd.R_alloc HD11.out _)⟩, ⟨R_C (Kd.R_alloc HE11.out _)⟩, ⟨HRL11.out.step (below_alloc (Below.refl _ _) _)⟩, ⟨blk_step HX11.out (below_alloc (Below.refl _ _) _)⟩, ⟨Kd.C_below HH11.out.tile (below_alloc (Below.refl _ _) _), HH11.out.tcap⟩, ⟨Kd.C_below HH11.out.seeds (below_alloc (Below.refl _ _) _), HH11.out.scap⟩⟩
          | (have hcs : Chg (fun y => y = w8.heap.size) w11 ((w11.setCell ⟨w8.heap.size, 0, none⟩ (.slice Ad (distOf W C s).length cd)).setCell ⟨w8.heap.size, 1, none⟩ (.slice Ae (dirsOf W H C s).length ce)) := ((Chg.refl (fun y => y = w8.heap.size) w11).set_ (p := ⟨w8.heap.size, 0, none⟩) (.inl rfl) _).set_ (p := ⟨w8.heap.size, 1, none⟩) (.inl rfl) _
             have hh := HH11.out.chg (hcs.mono (fun _ h => .inr h))
             exact ⟨w8.heap.size, Ad, cd, Ae, ce, rfl, rfl, ⟨set_blk (set_blk yb0 0 _) 1 _⟩, ⟨R_C (R_set (R_set HD11.out yb0 (by decide) 0 _) (set_blk yb0 0 _) (by decide) 1 _)⟩, ⟨R_C (R_set (R_set HE11.out yb0 (by decide) 0 _) (set_blk yb0 0 _) (by decide) 1 _)⟩, ⟨yrl.out _ hcs⟩, ⟨blk_far (blk_far HX11.out HNT.out _) HNT.out _⟩, ⟨hh.tile, hh.tcap⟩, ⟨hh.seeds, hh.scap⟩⟩)
      case rest =>
        obtain ⟨gf, Ad, cd, Ae, ce, rfl, rfl, HGF, HGD, HGE, HRLc, HGTc, HTc, HSc⟩ := hcut
        clear t0 t1 t2 z1 HX8 HM8 HT8 HO8C HA8 HB08 HQ8 HNT HNQ HR8 HONE HTL
        have t0 := cell_blk (j := 0) (u := .int .i64 W) HGTc.out rfl
        have t1 := cell_blk (j := 1) (u := .int .i64 H) HGTc.out rfl
        have t2 := cell_blk (j := 2) (u := .slice At C.length ct) HGTc.out rfl
        have hdl : (distOf W C s).length ≤ 256 ∧ (dirsOf W H C s).length ≤ 256 := by
          rw [(distOf_spec HCL.out.2 HSO.out).1, dirs_len]
          exact ⟨HCL.out.1, HCL.out.1⟩
        have HDL := Aside0.mk hdl
        have HFF := Aside0.mk (fieldF_ok HCL.out.2 HSO.out (show s.length ≤ 1000000 by have := HS4.out; omega))
        have HSF := Aside0.mk (sameField_own (distOf W C s) (dirsOf W H C s) (by omega) (by omega) 5000 (by omega))
        clear hdl
        go_upto_region 13 with (first
          | (go_at_call 58; refine (field_calls W H At ct C As cs s _ _ _ _ HTc.out.1 HTc.out.2 HSc.out.1 HSc.out.2 HFF.out).mono ?_; rintro e w12 ⟨v0, v1, rfl, ho0, ho1, hb⟩; obtain ⟨Ax, cx, rfl⟩ := Kd.R_slice ho0; obtain ⟨Ay, cy, rfl⟩ := Kd.R_slice ho1; have HB12 := Aside0.mk hb; have HD12 := Aside0.mk ho0; have HE12 := Aside0.mk ho1; clear ho0 ho1 hb t0 t1 t2)
          | ((with_reducible refine gate_dst (N := 16) rfl ?_); refine box_event ?hg (N := 16) ?hd (cs := #[.slice none 0 0, .slice none 0 0]) (t := 60) ?hr ?_; (case hd => rfl); (case hg => rfl); (case hr => first | (go_simp; done) | (go_simp; rfl)); intro gg hg w13 hbox hb; have z0 : w13.cell? ⟨gg, 0, none⟩ = _ := cell_blk hbox rfl; have z1 : w13.cell? ⟨gg, 1, none⟩ = _ := cell_blk hbox rfl; have f0 := free_blk hbox 0; have f1 := free_blk hbox 1; have HF13 := Aside0.mk hbox; have HGG : Aside0 (w12.heap.size ≤ gg) := ⟨by rw [hg]; exact Nat.le_refl _⟩; have HB13 := Aside0.mk hb; clear hb hbox hg))
        obtain ⟨w14, hw14⟩ : ∃ w14, w14 = ((w13.setCell ⟨gg, 0, none⟩ (.slice Ax (distOf W C s).length cx)).setCell ⟨gg, 1, none⟩ (.slice Ay (dirsOf W H C s).length cy)) := ⟨_, rfl⟩
        rw [← hw14]
        have hB14 : Below w12.heap.size w12 w14 := by
          rw [hw14]
          exact (((Chg.of_below HB13.out (fun b => w12.heap.size ≤ b)).set_ (p := ⟨gg, 0, none⟩) (.inl HGG.out) _).set_ (p := ⟨gg, 1, none⟩) (.inl HGG.out) _).below (fun k hk => hk) (Nat.le_refl _)
        have hF14 : w14.heap[gg]? = some (.cells #[.slice Ax (distOf W C s).length cx, .slice Ay (dirsOf W H C s).length cy] 60 (0, 0)) := by rw [hw14]; exact set_blk (set_blk HF13.out 0 _) 1 _
        have HB14 : Aside0 (Below wc.heap.size wc w14) := ⟨below_step HB12.out hB14⟩
        have HD14 := Aside0.mk (R_C (Kd.R_below HD12.out hB14))
        have HE14 := Aside0.mk (R_C (Kd.R_below HE12.out hB14))
        have hG14 := blk_step HGF.out HB14.out
        have g0 := cell_blk (j := 0) (u := .slice Ax (distOf W C s).length cx) hF14 rfl
        have g1 := cell_blk (j := 1) (u := .slice Ay (dirsOf W H C s).length cy) hF14 rfl
        have h0 := cell_blk (j := 0) (u := .slice Ad (distOf W C s).length cd) hG14 rfl
        have h1 := cell_blk (j := 1) (u := .slice Ae (dirsOf W H C s).length ce) hG14 rfl
        clear hw14 hB14 hF14 hG14 z0 z1 f0 f1 HF13 HB13 HD12 HE12 HB12
        go_wp2_with (go_at_call 59; refine (herdsmanref7_SameField.calls 5000 Ad cd _ Ae ce _ Ax cx _ Ay cy _ true _ (Kd.C_below HGD.out.1 HB14.out) HGD.out.2 (Kd.C_below HGE.out.1 HB14.out) HGE.out.2 HD14.out.1 HD14.out.2 HE14.out.1 HE14.out.2 HSF.out).mono ?_; rintro e w15 ⟨rfl, hb⟩; have HB15 := Aside0.mk (below_step HB14.out hb); clear hb)
        go_roundg (40 - (i + 1))
        case measure => have := HI.out; omega
        case rel => exact ⟨i + 1, by first | rfl | (rw [w64 (n := (i : Int) + 1) (by omega) (by omega)]; rfl), by have := HI.out; omega, Nat.le_refl _, ⟨HRLc.out.step HB15.out⟩⟩
    · have HI : Aside0 (¬ (i < l2.length ∧ i < 40)) := ⟨hlt⟩
      have fin : ∀ (P : Prop), (i < l2.length → ¬ i < 40 → P) → (¬ i < l2.length → P) → P := fun P h1 h2 => if h : i < l2.length then h1 h (fun h3 => hlt ⟨h, h3⟩) else h2 h
      refine fin _ (fun ha hb => ?_) (fun ha => ?_)
      case' refine_1 =>
        have d1 : (i : Int) < (l2.length : Int) := by omega
        have d2 : ¬ (i : Int) < 40 := by omega
        have d3 : decide ((i : Int) < 40) = false := decide_eq_false d2
      case' refine_2 =>
        have d1 : ¬ (i : Int) < (l2.length : Int) := by omega
        have d3 : decide ((i : Int) < (l2.length : Int)) = false := decide_eq_false d1
      all_goals
        clear fin
        go_wp2_with (go_at_call 66; refine (told19_calls _).mono ?_; rintro e w21 ⟨rfl, hb⟩; have HB21 := Aside0.mk hb; clear hb)
        go_ret
        exact ⟨rfl, below_step HRL.out.below HB21.out⟩
/-- As the row's form wants it. -/
noncomputable def shelfRightH.f (n : Nat) (a0 : Int) (l1 : List Int) (l2 : List Ask) : Option Bool := open Classical in if (l1.length ≤ 140737488355328 ∧ ∀ x ∈ l1, 0 ≤ x ∧ x ≤ 255) ∧ ∀ x, x ∈ l2 → x.ok then some true else none
theorem shelfRightH.calls (n : Nat) (a0 : Int) (A1 : Option Addr) (c1 : Nat) (l1 : List Int) (A2 : Option Addr) (c2 : Nat) (l2 : List Ask) (r : Bool) (w : World) (hr1 : Kd.C (Kd.int .u8) w A1 l1.length l1) (hc1 : l1.length ≤ c1) (hr2 : Kd.C kAsk w A2 l2.length l2) (hc2 : l2.length ≤ c2) (h : shelfRightH.f n a0 l1 l2 = some r) :
    Calls Try.prog 23 #[.int .i64 a0, .slice A1 l1.length c1, .slice A2 l2.length c2] w fun e w' => e = .returned (.bool r) ∧ Below w.heap.size w w' := by
  unfold shelfRightH.f at h
  split at h
  · rename_i hb
    obtain rfl := Option.some.inj h
    exact shelfRight_calls a0 A1 c1 l1 A2 c2 l2 w hr1 hc1 hr2 hc2 hb.1.1 hb.1.2 hb.2
  · exact absurd h (by simp)
end Go.Proofs.Ytgcfcemgeppkmaa.P
