/-
  herdsmanlaw19.ShelfPlays: which field is told, what is counted, which keys are kept, is what the document says.
-/
import Derived.Test.YtgcfcemgeppkmaaXAsk
import Derived.Test.YtgcfcemgeppkmaaXShelfFlush
import Derived.Test.YtgcfcemgeppkmaaXRef18B
import Derived.Test.YtgcfcemgeppkmaaXPlaysP
import Derived.Test.YtgcfcemgeppkmaaXRefField
namespace Go.Proofs.Ytgcfcemgeppkmaa.P
open Go.RowKit Go.Proofs.YtgcfcemgeppkmaaW.PrintWords Go.Proofs.YtgcfcemgeppkmaaW.PrintLast Go.Proofs.YtgcfcemgeppkmaaW.PrintMore
open Go.Proofs.Ytgcfcemgeppkmaa.Ord Go.Proofs.Ytgcfcemgeppkmaa.Dist
set_option linter.unusedVariables false
set_option linter.unusedSimpArgs false
attribute [local go_sem high] eqStats
attribute [local go_sem] max2_int min2_int max_two min_two max_three min_three max_four min_four
theorem within_rng (x : Int) (n : Int) (h : 0 ≤ n) (hn : n ≤ 1000) (lo : Int) (hl : 0 ≤ lo ∧ lo ≤ 1000) : ∃ a : Int, herdsmanref1_Within.f x lo (lo + n) = some a ∧ lo ≤ a ∧ a ≤ lo + n := by
  refine ⟨_, within_some x (by omega) (by omega) (by omega), ?_, ?_⟩
  · have := Int.emod_nonneg x (show lo + n - lo + 1 ≠ 0 by omega)
    omega
  · have := Int.emod_lt_of_pos x (show 0 < lo + n - lo + 1 by omega)
    omega
theorem Cnt.upto_succ {c : Cnt} {i : Nat} (h : c.upto i) : c.upto (i + 1) := by
  unfold Cnt.upto at h ⊢
  omega
/-- Both shelves between two calls. -/
structure PL (w wr : World) (sb lb rb : Nat) (k : Int) (i : Nat) : Prop where
  ex : ∃ (own : Nat → Prop) (mb : Nat) (sv : Value) (seats : List Seat) (nw od : Int) (D : DataW Unit) (ord : List Nat) (fv : Value) (kvs : List Kv) (kps : List Kept) (c : Cnt) (ownr : Nat → Prop) (v : Value) (Z : List (Rv × RP)), ShelfM wr own sb lb k sv mb seats nw od D ord fv kvs kps c ∧ RSh wr ownr rb k v Z c ∧ (∀ b, own b → w.heap.size ≤ b ∧ b < wr.heap.size) ∧ (∀ b, ownr b → w.heap.size ≤ b ∧ b < wr.heap.size) ∧ (∀ b, own b → ¬ ownr b) ∧ c.upto i ∧ (seats.length ≤ i ∧ kvs.length = seats.length ∧ Z.length ≤ i) ∧ PairI seats.length (keyF seats) ord kps Z
  below : Below w.heap.size w wr
theorem PL.step {w wr w' : World} {sb lb rb : Nat} {k : Int} {i : Nat} (h : PL w wr sb lb rb k i) (hb : Below wr.heap.size wr w') : PL w w' sb lb rb k i := by
  obtain ⟨⟨own, mb, sv, seats, nw, od, D, ord, fv, kvs, kps, c, ownr, v, Z, h1, h2, h3, h4, h5⟩, h6⟩ := h
  exact ⟨⟨own, mb, sv, seats, nw, od, D, ord, fv, kvs, kps, c, ownr, v, Z, h1.below hb, h2.below hb, fun b hbb => ⟨(h3 b hbb).1, Nat.lt_of_lt_of_le (h3 b hbb).2 hb.size⟩, fun b hbb => ⟨(h4 b hbb).1, Nat.lt_of_lt_of_le (h4 b hbb).2 hb.size⟩, h5⟩, below_step h6 hb⟩
theorem Handed3.weak {w : World} {own own' : Nat → Prop} {At : Option Addr} {ct : Nat} {C : List Int} {As : Option Addr} {cs : Nat} {s : List Seed} (h : Handed3 w own' At ct C As cs s) (ho : ∀ b, own b → own' b) : Handed3 w own At ct C As cs s :=
  { h with farT := fun ad e h0 hb => h.farT ad e h0 (ho _ hb), farS := fun ad e h0 hb => h.farS ad e h0 (ho _ hb) }
theorem PairI.len {n : Nat} {ks : Nat → Int × Int} {ord : List Nat} {kps : List Kept} {Z : List (Rv × RP)} (hP : PairI n ks ord kps Z) : Z.length = n := by
  have hlenZ : Z.length = ord.length := by have := congrArg List.length hP.same; simpa using this
  have hp : ord.Perm (List.range n) := (List.perm_ext_iff_of_nodup hP.nodup List.nodup_range).2 fun i => by rw [hP.all i, List.mem_range]
  have := hp.length_eq
  simp at this
  omega
theorem PairI.kl {n : Nat} {ks : Nat → Int × Int} {ord : List Nat} {kps : List Kept} {Z : List (Rv × RP)} (hP : PairI n ks ord kps Z) : (Z.map fun z => (z.2.a, z.2.b)) = ord.map ks := by
  have h1 := congrArg (List.map fun p : RP => (p.a, p.b)) hP.same
  rw [List.map_map, List.map_map] at h1
  exact h1
theorem PL.up {w wr : World} {sb lb rb : Nat} {k : Int} {i : Nat} (h : PL w wr sb lb rb k i) : PL w wr sb lb rb k (i + 1) := by
  obtain ⟨⟨own, mb, sv, seats, nw, od, D, ord, fv, kvs, kps, c, ownr, v, Z, h1, h2, h3, h4, h5, h6, h7, h8⟩, h9⟩ := h
  exact ⟨⟨own, mb, sv, seats, nw, od, D, ord, fv, kvs, kps, c, ownr, v, Z, h1, h2, h3, h4, h5, Cnt.upto_succ h6, ⟨by have := h7.1; omega, h7.2.1, by have := h7.2.2; omega⟩, h8⟩, h9⟩
theorem PL.got {w wr w12 w13 w15 w16 w18 : World} {own ownr ownr' : Nat → Prop} {sb lb mb rb : Nat} {k : Int} {seats s' : List Seat} {ord ord' : List Nat} {kvs kvs' : List Kv} {kps kps' : List Kept} {c c' : Cnt} {sv' fv' v' : Value} {nw' od' : Int} {D' : DataW Unit} {Z : List (Rv × RP)} {st : AS} {x0 : Rv} {i N slot : Nat} {had out : Bool} {a b ver : Int} {s : List Seed} {Dst Drs dist dirs : List Int}
    (hB12 : Below wr.heap.size wr w12) (hBW : Below w.heap.size w wr) (hown : ∀ b, own b → w.heap.size ≤ b ∧ b < wr.heap.size) (hownr : ∀ b, ownr b → w.heap.size ≤ b ∧ b < wr.heap.size) (hdis : ∀ b, own b → ¬ ownr b) (hcu : c.upto i) (hsl : seats.length ≤ i ∧ kvs.length = seats.length ∧ Z.length ≤ i) (hPI : PairI seats.length (keyF seats) ord kps Z) (hk : (seats.length : Int) ≤ k) (hk1 : 1 ≤ k)
    (hm : ShelfM w13 (ownN own w12.heap.size N) sb lb k sv' mb s' nw' od' D' ord' fv' kvs' kps' c') (hn : N ≤ w13.heap.size) (hwn : w12.heap.size ≤ N) (hl : kvs'.length = s'.length) (hc : Chg own w12 w13) (hg : GotS seats.length k (keyF seats) ord kps c a b ver s Dst Drs s'.length (keyF s') ord' kps' c' dist dirs slot had out)
    (hB15 : Below w13.heap.size w13 w15) (hst : st = askF a b ver s (x0, ⟨a, b, ver, s, Dst, Drs⟩) Z) (hr : RSh w16 ownr' rb k v' (st.x :: askR k st) (askC k st c)) (hro : ∀ y, ownr' y → ownr y ∨ (w15.heap.size ≤ y ∧ y < w16.heap.size)) (hcr : Chg ownr w15 w16) (hB18 : Below w16.heap.size w16 w18) :
    st.x.2.dist = dist ∧ st.x.2.dirs = dirs ∧ PL w w18 sb lb rb k (i + 1) ∧ MeanR w18 (fun y => ownr' y ∧ y ≠ rb) st.x.1 st.x.2 := by
  obtain ⟨p1, p2, p3, p4⟩ := hg.plays hPI hk hk1 hm.lru.link.nodup hm.lru.all hm.lru.keys.inj x0 hst
  obtain ⟨c1, c2⟩ := hg.counts hcu
  have z1 := hBW.size
  have z2 := hB12.size
  have z3 := hc.size
  have z4 := hB15.size
  have z5 := hcr.size
  have z6 := hB18.size
  have ho : ∀ y, ownN own w12.heap.size N y → w.heap.size ≤ y ∧ y < w13.heap.size ∧ ¬ ownr y := fun y hy => by
    rcases hy with hy | hy
    · have := hown y hy
      exact ⟨by omega, by omega, hdis y hy⟩
    · exact ⟨by omega, by omega, fun e => by have := hownr y e; omega⟩
  have hor : ∀ y, ownr' y → w.heap.size ≤ y ∧ y < w16.heap.size := fun y hy => by
    rcases hro y hy with hy | hy
    · have := hownr y hy
      omega
    · omega
  rw [p4] at hr
  have hr18 := hr.below hB18
  refine ⟨p1, p2, ⟨⟨_, _, _, _, _, _, _, _, _, _, _, _, _, _, _, ((hm.below hB15).chg hcr (fun y hy => (ho y hy).2.2)).below hB18, hr18, fun y hy => ?_, fun y hy => ?_, fun y hy e => ?_, c1, ⟨by have := hsl.1; omega, hl, by rw [p3.len]; have := hsl.1; omega⟩, p3⟩, ?_⟩, hr18.mean _ List.mem_cons_self⟩
  · have := ho y hy
    omega
  · have := hor y hy
    omega
  · have h1 := ho y hy
    rcases hro y e with h2 | h2
    · exact h1.2.2 h2
    · omega
  · have h1 := (Chg.of_below (below_step hBW hB12) (fun y => w.heap.size ≤ y)).then_ hc (fun y hy => .inl (hown y hy).1)
    have h2 := h1.trans (Chg.of_below hB15 _)
    have h3 := h2.then_ hcr (fun y hy => .inl (hownr y hy).1)
    exact (h3.trans (Chg.of_below hB18 _)).below (fun k hk => hk) (Nat.le_refl _)
/-- Both answers, behind a call. -/
structure Meet (w wz : World) (sb lb rb : Nat) (k : Int) (i gf gg : Nat) : Prop where
  ex : ∃ (D E : List Int) (Ad : Option Addr) (cd : Nat) (Ae : Option Addr) (ce : Nat) (Ax : Option Addr) (cx : Nat) (Ay : Option Addr) (cy : Nat), wz.heap[gf]? = some (.cells #[.slice Ad D.length cd, .slice Ae E.length ce] 60 (0, 0)) ∧ wz.heap[gg]? = some (.cells #[.slice Ax D.length cx, .slice Ay E.length cy] 60 (0, 0)) ∧ (Kd.C (Kd.int .i64) wz Ad D.length D ∧ D.length ≤ cd) ∧ (Kd.C (Kd.int .i64) wz Ae E.length E ∧ E.length ≤ ce) ∧ (Kd.C (Kd.int .i64) wz Ax D.length D ∧ D.length ≤ cx) ∧ (Kd.C (Kd.int .i64) wz Ay E.length E ∧ E.length ≤ cy) ∧ D.length ≤ 1000 ∧ E.length ≤ 1000
  pl : PL w wz sb lb rb k i
set_option maxRecDepth 100000 in
set_option maxHeartbeats 8000000 in
theorem shelfPlays_calls (a0 : Int) (A1 : Option Addr) (c1 : Nat) (l1 : List Int) (A2 : Option Addr) (c2 : Nat) (l2 : List Ask) (w : World) (hr1 : Kd.C (Kd.int .u8) w A1 l1.length l1) (hc1 : l1.length ≤ c1) (hr2 : Kd.C kAsk w A2 l2.length l2) (hc2 : l2.length ≤ c2) (h1 : l1.length ≤ 140737488355328) (hb1 : ∀ x ∈ l1, 0 ≤ x ∧ x ≤ 255) :
    Calls Try.prog 25 #[.int .i64 a0, .slice A1 l1.length c1, .slice A2 l2.length c2] w fun e w' => e = .returned (.bool true) ∧ Below w.heap.size w w' := by
  have HR1 := Aside0.mk hr1
  have HC1 := Aside0.mk hc1
  have HR2 := Aside0.mk hr2
  have HC2 := Aside0.mk hc2
  have HB1 := Aside0.mk (And.intro h1 hb1)
  obtain ⟨k, hwk, hk1, hk5⟩ := within_rng a0 4 (by omega) (by omega) 1 (by omega)
  have HWK := Aside0.mk (show herdsmanref1_Within.f a0 1 5 = some k from hwk)
  have HK1 := Aside0.mk (And.intro hk1 hk5)
  clear hr1 hc1 hr2 hc2 h1 hb1 hwk hk1 hk5
  go_enter Try.func25, Try.ntmps25
  go_upto_region 6 with (first
    | (go_at_call 34; refine (herdsmanref1_Within.calls a0 1 5 k _ HWK.out).mono ?_; rintro e w0 ⟨rfl, hd⟩; have HB0 := Aside0.mk hd.below; clear hd)
    | (go_at_call 64; refine (newS_calls k HK1.out.1 _).mono ?_; rintro e w1 ⟨sb, lb, mb, rfl, hs, hb⟩; have HS1 := Aside0.mk hs; have HB1s := Aside0.mk hb; clear hs hb)
    | ((with_reducible refine gate_dst (N := 29) rfl ?_); refine box_event ?hg (N := 29) ?hd (cs := #[.int .i64 k, .slice none 0 0, .int .u64 0, .int .u64 0, .int .u64 0, .int .u64 0, .int .u64 0, .int .u64 0]) (t := 82) ?hr ?_; (case hd => rfl); (case hg => rfl); (case hr => first | (go_simp; done) | (go_simp; rfl)); intro rb hg w2 hbox hb; have HX2 := Aside0.mk hbox; have HG2 : Aside0 (w1.heap.size ≤ rb) := ⟨by rw [hg]; exact Nat.le_refl _⟩; have HB2 := Aside0.mk hb; clear hb hbox hg))
  have hst : PL w w2 sb lb rb k 0 := by
    have hz0 := HB0.out.size
    have hz1 := HB1s.out.size
    have hz2 := HB2.out.size
    have hg := HG2.out
    refine ⟨⟨_, _, _, _, _, _, _, _, _, _, _, _, fun b => b = rb, _, [], HS1.out.below HB2.out, ⟨HX2.out, Kd.R_nil _ _ _ _ _, fun z hz => absurd hz (by simp), rfl⟩, fun b hb => ⟨Nat.le_trans hz0 hb.1, Nat.lt_of_lt_of_le hb.2 hz2⟩, fun b hb => by have e : b = rb := hb; have h2 := blk_lt HX2.out; omega, fun b hb e => by have h1 : b < w1.heap.size := hb.2; have e' : b = rb := e; omega, by unfold Cnt.upto cnt0; simp, ⟨Nat.le_refl _, rfl, Nat.le_refl _⟩, ⟨rfl, List.nodup_nil, fun i => by simp, fun i j hi => absurd hi (by simp)⟩⟩, below_step (below_step HB0.out HB1s.out) HB2.out⟩
  have HST := Aside0.mk hst
  clear hst HS1 HB0 HB1s HB2 HX2 HG2
  go_wp2_with fail
  go_loopg [10] 40 (fun gg v10 wr => ∃ i : Nat, v10 = .int .i64 i ∧ i ≤ 40 ∧ 40 - i ≤ gg ∧ Aside0 (PL w wr sb lb rb k i))
  case atStart => exact ⟨0, rfl, by omega, by omega, HST⟩
  case round =>
    obtain ⟨i, rfl, hi, hgg, HPL⟩ := hrel
    by_cases hlt : i < l2.length ∧ i < 40
    · obtain ⟨hlt1, hlt2⟩ := hlt
      have d1 : (i : Int) < (l2.length : Int) := by omega
      have d2 : (i : Int) < 40 := by omega
      have hi0 : (0 : Int) ≤ (i : Int) := by omega
      obtain ⟨⟨own, mb', sv, seats, nw, od, D, ord, fv, kvs, kps, c, ownr, v, Z, hM, hRS, hown, hownr, hdis, hcu, hsl, hPI⟩, hB⟩ := HPL.out
      obtain ⟨ad, A4, c4, hA, y0, y1, y2, y3, y4, hl4, hC4⟩ := at_T72 (Kd.C_below HR2.out hB) (i : Int) (by omega) (by omega)
      rw [Int.toNat_natCast] at y0 y1 y2 y3 y4
      generalize rd_T72 l2 (i : Int) = q at *
      subst hA
      obtain ⟨kd, hwd, hd0, hd12⟩ := within_rng q.f0 12 (by omega) (by omega) 0 (by omega)
      obtain ⟨a, hwa, ha0, ha3⟩ := within_rng q.f1 3 (by omega) (by omega) 0 (by omega)
      obtain ⟨b, hwb, hb0, hb2⟩ := within_rng q.f2 2 (by omega) (by omega) 0 (by omega)
      obtain ⟨ver, hwv, hv0, hv2⟩ := within_rng q.f3 2 (by omega) (by omega) 0 (by omega)
      have HM0 := Aside0.mk hM
      have HRS := Aside0.mk hRS
      have HOWN := Aside0.mk hown
      have HOWR := Aside0.mk hownr
      have HDIS := Aside0.mk hdis
      have HCU := Aside0.mk hcu
      have HSL := Aside0.mk hsl
      have HPI := Aside0.mk hPI
      have HBW := Aside0.mk hB
      have HWD := Aside0.mk (show herdsmanref1_Within.f q.f0 0 12 = some kd from hwd)
      have HWA := Aside0.mk (show herdsmanref1_Within.f q.f1 0 3 = some a from hwa)
      have HWB := Aside0.mk (show herdsmanref1_Within.f q.f2 0 2 = some b from hwb)
      have HWV := Aside0.mk (show herdsmanref1_Within.f q.f3 0 2 = some ver from hwv)
      have HAB : Aside0 (W64 a ∧ W64 b) := ⟨⟨by omega, by omega⟩, ⟨by omega, by omega⟩⟩
      have HVB := Aside0.mk (And.intro hb0 (And.intro hb2 (And.intro hv0 hv2)))
      have HC4 := Aside0.mk hC4
      have HL4 := Aside0.mk hl4
      have HI := Aside0.mk (And.intro hi (And.intro hgg (And.intro hlt1 hlt2)))
      clear hM hRS hown hownr hdis hcu hsl hPI hB hwd hwa hwb hwv hd0 hd12 ha0 ha3 hb0 hb2 hv0 hv2 hl4 hC4 hi hgg HPL
      go_upto_region 10 with ((with_reducible refine gate_dst (N := 11) rfl ?_); refine box_event ?hg (N := 11) ?hd (cs := #[.int .i64 0, .int .i64 0, .int .i64 0, .int .i64 0, .slice none 0 0]) (t := 72) ?hr ?_; (case hd => rfl); (case hg => rfl); (case hr => first | (go_simp; done) | (go_simp; rfl)); intro gq hg w2 hbox hb; have x0 : w2.cell? ⟨gq, 0, none⟩ = _ := cell_blk hbox rfl; have f0 := free_blk hbox 0; have x1 : w2.cell? ⟨gq, 1, none⟩ = _ := cell_blk hbox rfl; have f1 := free_blk hbox 1; have x2 : w2.cell? ⟨gq, 2, none⟩ = _ := cell_blk hbox rfl; have f2 := free_blk hbox 2; have x3 : w2.cell? ⟨gq, 3, none⟩ = _ := cell_blk hbox rfl; have f3 := free_blk hbox 3; have x4 : w2.cell? ⟨gq, 4, none⟩ = _ := cell_blk hbox rfl; have f4 := free_blk hbox 4; have HQ2 := Aside0.mk hbox; have HGQ : Aside0 (wr.heap.size ≤ gq) := ⟨by rw [hg]; exact Nat.le_refl _⟩; have HB2 := Aside0.mk hb; clear hb hbox hg)
      obtain ⟨w3, hw3⟩ : ∃ w3, w3 = (((((w2.setCell ⟨gq, 0, none⟩ (.int .i64 q.f0)).setCell ⟨gq, 1, none⟩ (.int .i64 q.f1)).setCell ⟨gq, 2, none⟩ (.int .i64 q.f2)).setCell ⟨gq, 3, none⟩ (.int .i64 q.f3)).setCell ⟨gq, 4, none⟩ (.slice A4 q.f4.length c4)) := ⟨_, rfl⟩
      rw [← hw3]
      have hB3 : Below wr.heap.size wr w3 := by
        rw [hw3]
        exact ((((((Chg.of_below HB2.out (fun b => wr.heap.size ≤ b)).set_ (p := ⟨gq, 0, none⟩) (.inl HGQ.out) _).set_ (p := ⟨gq, 1, none⟩) (.inl HGQ.out) _).set_ (p := ⟨gq, 2, none⟩) (.inl HGQ.out) _).set_ (p := ⟨gq, 3, none⟩) (.inl HGQ.out) _).set_ (p := ⟨gq, 4, none⟩) (.inl HGQ.out) _).below (fun k hk => hk) (Nat.le_refl _)
      have hQ3 : w3.heap[gq]? = some (.cells #[.int .i64 q.f0, .int .i64 q.f1, .int .i64 q.f2, .int .i64 q.f3, .slice A4 q.f4.length c4] 72 (0, 0)) := by rw [hw3]; exact set_blk (set_blk (set_blk (set_blk (set_blk HQ2.out 0 _) 1 _) 2 _) 3 _) 4 _
      have q0 := cell_blk (j := 0) (u := .int .i64 q.f0) hQ3 rfl
      have HQ3 := Aside0.mk hQ3
      have HB3 := Aside0.mk hB3
      clear hw3 hB3 hQ3 x0 x1 x2 x3 x4 f0 f1 f2 f3 f4 HQ2 HB2 y0 y1 y2 y3 y4
      by_cases hkd : kd = 12
      · subst hkd
        have hrb := HRS.out.blk
        have hnr : ¬ own rb := fun e => HDIS.out _ e HRS.out.ownB
        have HNR := Aside0.mk hnr
        clear hrb hnr
        go_wp2_with (first
          | (go_at_call 34; refine (herdsmanref1_Within.calls q.f0 0 12 12 _ HWD.out).mono ?_; rintro e w5 ⟨rfl, hd⟩; have HB5 := Aside0.mk (below_step HB3.out hd.below); clear hd)
          | (go_at_call 68; refine (flushS_calls (HM0.out.below HB5.out)).mono ?_; rintro e w7 ⟨rfl, mb7, hs, hc⟩; have HS7 := Aside0.mk hs; have HC7 := Aside0.mk hc; have hb7 := hc.blk (blk_step HRS.out.blk HB5.out) HNR.out; have HB7 := Aside0.mk hb7; have x1 := cell_blk (j := 1) (u := v) hb7 rfl; have fr1 := free_blk hb7 1; clear hs hc hb7))
        have hcs : Chg (fun y => y = rb) w7 (w7.setCell ⟨rb, 1, none⟩ (.slice none 0 0)) := (Chg.refl (fun y => y = rb) w7).set_ (p := ⟨rb, 1, none⟩) (.inl rfl) _
        have hrl := HOWR.out _ HRS.out.ownB
        have hz5 := HB5.out.size
        have hz7 := HC7.out.size
        have hzs := hcs.size
        have hzw := HBW.out.size
        have hPL : PL w (w7.setCell ⟨rb, 1, none⟩ (.slice none 0 0)) sb lb rb k (i + 1) := by
          refine ⟨⟨_, _, _, _, _, _, _, _, _, _, _, c, fun y => y = rb, .slice none 0 0, [], HS7.out.chg hcs (fun y hy e => ?_), ⟨?_, Kd.R_nil _ _ _ _ _, fun z hz => absurd hz (by simp), rfl⟩, fun y hy => ?_, fun y hy => ?_, fun y hy e => ?_, Cnt.upto_succ HCU.out, ⟨Nat.zero_le _, rfl, Nat.zero_le _⟩, ⟨rfl, List.nodup_nil, fun j => by simp, fun j j2 hj => absurd hj (by simp)⟩⟩, ?_⟩
          · have e' : y = rb := e
            rcases hy with hy | hy
            · exact HNR.out (e' ▸ hy)
            · omega
          · have := set_blk HB7.out 1 (.slice none 0 0)
            exact this
          · rcases hy with hy | hy
            · have := HOWN.out y hy
              omega
            · omega
          · have e' : y = rb := hy
            omega
          · have e' : y = rb := e
            rcases hy with hy | hy
            · exact HNR.out (e' ▸ hy)
            · omega
          · have h1 := (Chg.of_below (below_step HBW.out HB5.out) (fun y => w.heap.size ≤ y)).then_ HC7.out (fun y hy => .inl (HOWN.out y hy).1)
            exact (h1.then_ hcs (fun y hy => .inl (show w.heap.size ≤ y by have e' : y = rb := hy; omega))).below (fun k hk => hk) (Nat.le_refl _)
        have HPL2 := Aside0.mk hPL
        clear hcs hrl hz5 hz7 hzs hzw hPL
        go_roundg (40 - (i + 1))
        case measure => have := HI.out; omega
        case rel => exact ⟨i + 1, by first | rfl | (rw [w64 (n := (i : Int) + 1) (by omega) (by omega)]; rfl), by have := HI.out; omega, Nat.le_refl _, HPL2⟩
      · obtain ⟨W, H, C, hMT, ht, hC⟩ := madeTile_some (3 + b) (2 + ver) l1 HB1.out.2 HB1.out.1
        obtain ⟨lf, hlf⟩ : ∃ lf, lf = q.f4.take (min q.f4.length 3) := ⟨_, rfl⟩
        have hlen : lf.length = min q.f4.length 3 := by rw [hlf, List.length_take]; omega
        have hse := seeds_some ht lf (by omega)
        obtain ⟨s0, hs0⟩ : ∃ s, s = seedsOf W H C lf := ⟨_, rfl⟩
        have hsl3 : s0.length ≤ 3 := by rw [hs0]; exact Nat.le_trans (seedsOf_len W H C lf) (by omega)
        rw [← hs0] at hse
        have hCL : C.length ≤ 256 := by
          have hm := mul_small ⟨ht.1, ht.2.1⟩ ⟨ht.2.2.1, ht.2.2.2.1⟩
          have := ht.2.2.2.2.1
          omega
        have HMT := Aside0.mk (hMT 2000 (by omega))
        have HSE := Aside0.mk hse
        have HS3 := Aside0.mk hsl3
        have HCL := Aside0.mk (And.intro hCL hC)
        have HLF : Aside0 (∀ wx, Kd.C (Kd.int .i64) wx A4 q.f4.length q.f4 → Kd.C (Kd.int .i64) wx A4 lf.length lf) := ⟨fun wx h => by rw [hlf]; exact Kd.C_take h (by omega)⟩
        obtain ⟨ji, hji⟩ : ∃ j : Int, j = (lf.length : Int) := ⟨_, rfl⟩
        have hmin2 : (if (3 : Int) < (q.f4.length : Int) then (3 : Int) else (q.f4.length : Int)) = ji := by rw [hji]; split <;> omega
        obtain ⟨i05, hi05, _, _, _⟩ := info_parts info3
        have hcut1 := cut_to (P := Try.prog) 36 3 .i64 Try.underlying36 hi05 A4 q.f4.length c4 ji (by omega) (by omega) HL4.out
        rw [show ji.toNat = lf.length by omega] at hcut1
        have HFC : Aside0 (lf.length ≤ c4) := ⟨by have := HL4.out; omega⟩
        have hvb := HVB.out
        have w3b : wrap64 (3 + b) = 3 + b := w64 (by omega) (by omega)
        have w2v : wrap64 (2 + ver) = 2 + ver := w64 (by omega) (by omega)
        have i3b : IntKind.i64.wrap (3 + b) = 3 + b := by rw [IntKind.wrap_i64]; omega
        have i2v : IntKind.i64.wrap (2 + ver) = 2 + ver := by rw [IntKind.wrap_i64]; omega
        clear hMT ht hC hlf hlen hse hs0 hsl3 hCL hji hi05 hvb
        go_upto_region 13 with (go_at_call 34; refine (herdsmanref1_Within.calls q.f0 0 12 kd _ HWD.out).mono ?_; rintro e w5 ⟨rfl, hd⟩; have hb := hd.below; have hq := blk_step HQ3.out hb; have q3 := cell_blk (j := 3) (u := .int .i64 q.f3) hq rfl; have HQ5 := Aside0.mk hq; have HB5 := Aside0.mk (below_step HB3.out hb); clear hd hb hq q0)
        go_upto_region 14 with (go_at_call 34; refine (herdsmanref1_Within.calls q.f3 0 2 ver _ HWV.out).mono ?_; rintro e w5 ⟨rfl, hd⟩; have hb := hd.below; have hq := blk_step HQ5.out hb; have q2 := cell_blk (j := 2) (u := .int .i64 q.f2) hq rfl; have HQ6 := Aside0.mk hq; have HB6 := Aside0.mk (below_step HB5.out hb); clear hd hb hq q3)
        go_upto_region 15 with (first
          | (go_at_call 34; refine (herdsmanref1_Within.calls q.f2 0 2 b _ HWB.out).mono ?_; rintro e w4 ⟨rfl, hd⟩; have hb := hd.below; have hq := blk_step HQ6.out hb; have HQ4 := Aside0.mk hq; have HB4 := Aside0.mk (below_step HB6.out hb); clear hd hb hq q2)
          | (go_at_call 37; refine (herdsmanref1_MadeTile.calls 2000 (3 + b) (2 + ver) A1 c1 l1 W H C _ (Kd.C_below (Kd.C_below HR1.out HBW.out) HB4.out) HC1.out HMT.out).mono ?_; rintro e w5 ⟨v5, rfl, ho, hb⟩; obtain ⟨At, ct, rfl⟩ := Kd.R_slice ho; have HBM := Aside0.mk hb; have HO5 := Aside0.mk ho; have HQM := Aside0.mk (blk_step HQ4.out hb); clear hb ho)
          | ((with_reducible refine gate_dst (N := 13) rfl ?_); refine box_event ?hg (N := 13) ?hd (cs := #[.int .i64 0, .int .i64 0, .slice none 0 0]) (t := 35) ?hr ?_; (case hd => rfl); (case hg => rfl); (case hr => first | (go_simp; done) | (go_simp; rfl)); intro gt hg w6 hbox hb; have y0 : w6.cell? ⟨gt, 0, none⟩ = _ := cell_blk hbox rfl; have f0 := free_blk hbox 0; have y1 : w6.cell? ⟨gt, 1, none⟩ = _ := cell_blk hbox rfl; have f1 := free_blk hbox 1; have y2 : w6.cell? ⟨gt, 2, none⟩ = _ := cell_blk hbox rfl; have f2 := free_blk hbox 2; have HXN := Aside0.mk hbox; have HGN : Aside0 (w5.heap.size ≤ gt) := ⟨by rw [hg]; exact Nat.le_refl _⟩; have HBN := Aside0.mk hb; clear hb hbox hg))
        obtain ⟨w7, hw7⟩ : ∃ w7, w7 = (((w6.setCell ⟨gt, 0, none⟩ (.int .i64 W)).setCell ⟨gt, 1, none⟩ (.int .i64 H)).setCell ⟨gt, 2, none⟩ (.slice At C.length ct)) := ⟨_, rfl⟩
        rw [← hw7]
        have hX7 : w7.heap[gt]? = some (.cells #[.int .i64 W, .int .i64 H, .slice At C.length ct] 35 (0, 0)) := by rw [hw7]; exact set_blk (set_blk (set_blk HXN.out 0 _) 1 _) 2 _
        have hB7 : Below w5.heap.size w5 w7 := by
          rw [hw7]
          exact ((((Chg.of_below HBN.out (fun k => w5.heap.size ≤ k)).set_ (p := ⟨gt, 0, none⟩) (.inl HGN.out) _).set_ (p := ⟨gt, 1, none⟩) (.inl HGN.out) _).set_ (p := ⟨gt, 2, none⟩) (.inl HGN.out) _).below (fun k hk => hk) (Nat.le_refl _)
        have hQ7 := blk_step HQM.out hB7
        have HQ7 := Aside0.mk hQ7
        have z4 := cell_blk (j := 4) (u := .slice A4 q.f4.length c4) hQ7 rfl
        have HX7 := Aside0.mk hX7
        have HO7 := Aside0.mk (Kd.R_below HO5.out hB7)
        have HB7 : Aside0 (Below wr.heap.size wr w7) := ⟨below_step (below_step HB4.out HBM.out) hB7⟩
        have HGT : Aside0 (wr.heap.size ≤ gt) := ⟨by have h1 := HBM.out.size; have h2 := HGN.out; have h3 := HB4.out.size; omega⟩
        have HS47 : Aside0 (w4.heap.size ≤ w7.heap.size ∧ wr.heap.size ≤ w4.heap.size) := ⟨⟨by have h1 := HBM.out.size; have h2 := hB7.size; omega, HB4.out.size⟩⟩
        have t0 := cell_blk (j := 0) (u := .int .i64 W) hX7 rfl
        have t1 := cell_blk (j := 1) (u := .int .i64 H) hX7 rfl
        have t2 := cell_blk (j := 2) (u := .slice At C.length ct) hX7 rfl
        clear hw7 hB7 hX7 hQ7 y0 y1 y2 f0 f1 f2 HXN HGN HBN HBM HO5 HQ4 HQM HB3 HQ3 HB5 HQ5 HB6 HQ6
        go_region_held3 (fun w' => w'.cell? ⟨gt, 0, none⟩ = some (.int .i64 W) ∧ w'.cell? ⟨gt, 1, none⟩ = some (.int .i64 H) ∧ w'.cell? ⟨gt, 2, none⟩ = some (.slice At C.length ct) ∧ w'.cell? ⟨gq, 4, none⟩ = some (.slice A4 q.f4.length c4))
          (first | exact ⟨t0, t1, t2, z4⟩ | exact ⟨u0, u1, u2, u4⟩ | go_keep)
          (first
            | (go_at_call 38; refine (herdsmanref7_Seeds.calls W H At ct C A4 c4 lf s0 _ (Kd.C_drew (R_C HO7.out).1) (R_C HO7.out).2 (HLF.out _ (Kd.C_drew (Kd.C_below HC4.out HB7.out))) HFC.out HSE.out).mono ?_; rintro e w8 ⟨v8, rfl, ho, hb⟩; obtain ⟨As0, cs0, rfl⟩ := Kd.R_slice ho; have u0 := pw_cell_below hb (a := ⟨gt, 0, none⟩) (v := .int .i64 W) t0; have u1 := pw_cell_below hb (a := ⟨gt, 1, none⟩) (v := .int .i64 H) t1; have u2 := pw_cell_below hb (a := ⟨gt, 2, none⟩) (v := .slice At C.length ct) t2; have u4 := pw_cell_below hb (a := ⟨gq, 4, none⟩) (v := .slice A4 q.f4.length c4) z4; have HB8 := Aside0.mk (below_step (below_drew1 (Below.refl _ _)) hb); have HO8 := Aside0.mk ho; clear hb ho))
        rename_i hHeld
        clear hHeld
        clear t0 t1 t2 u0 u1 u2 u4 z4 hmin2 hcut1 w3b w2v i3b i2v
        have HS8 := Aside0.mk (Kd.R_lower HO8.out (show w7.heap.size ≤ w7.drew.heap.size from Nat.le_refl _))
        have hQ8 := blk_step HQ7.out HB8.out
        have q0 := cell_blk (j := 0) (u := .int .i64 q.f0) hQ8 rfl
        have hX8 := blk_step HX7.out HB8.out
        have t2 := cell_blk (j := 2) (u := .slice At C.length ct) hX8 rfl
        clear hQ8 hX8 HO8
        go_upto_if 76 with (go_at_call 34; refine (herdsmanref1_Within.calls q.f0 0 12 kd _ HWD.out).mono ?_; rintro e w9 ⟨rfl, hd⟩; have hb := hd.below; have t2 := pw_cell_below hb t2; have HB9 := Aside0.mk (below_step HB8.out hb); have HS9 := Aside0.mk (Kd.R_below HS8.out hb); clear hd hb q0)
        go_cut [14] (fun v14 wc => ∃ (s : List Seed) (As : Option Addr) (cs : Nat), v14 = .slice As s.length cs ∧ Aside0 (Kd.R k25 25 wc w7.heap.size (fun _ => True) (.slice As s.length cs) s) ∧ Aside0 (s.length ≤ 4) ∧ Aside0 (Below w7.heap.size w7 wc))
        case first =>
          by_cases hk11 : kd = 11
          · subst hk11
            go_wp2_with (first
              | ((with_reducible refine gate_dst (N := 82) rfl ?_); refine Kd.R_lit k25 w9.heap.size 25 ?hg (N := 82) ?hd (xs := [(⟨(C.length : Int), 0, 0⟩ : Seed)]) (inner := [.int .i64 C.length, .int .i64 0, .int .i64 0]) (ok := fun _ => True) (okp := fun _ => True) ?hr ?hp (fun _ hk => hk) trivial (Below.refl _ _) (Nat.le_refl _) (by simp) ?_; (case hd => rfl); (case hg => rfl); (case hr => first | (go_simp; done) | (go_simp; rfl)); (case hp => exact (Reps.c3 (k25_mkM _ _ _ (⟨(C.length : Int), 0, 0⟩ : Seed)) (Reps.none _ _))); intro v5 w10 ho hb _ _; obtain ⟨A5, n5, rfl, _, hC⟩ := Kd.R_reads ho; have HB10 := Aside0.mk (below_step HB9.out hb); have HS10 := Aside0.mk (Kd.R_below HS9.out hb); have HL10 := Aside0.mk hC; clear ho hb hC)
              | ((with_reducible refine gate_builtin (b := .append) (xs := #[.tmp 77, .tmp 82]) rfl ?_); at_builtin; go_loud (refine Kd.R_append_rows k25 (w0 := w7) w7.heap.size rfl (.tmp 77) (.tmp 82) 22 25 (.agg #[.int .i64 0, .int .i64 0, .int .i64 0]) 24 rfl Try.underlying22 info25 rfl (by decide) (by omega) _ s0 [(⟨(C.length : Int), 0, 0⟩ : Seed)] _ _ _ (fun _ => True) (fun _ => False) rfl rfl HS10.out HL10.out (fun _ _ h => h) (fun _ h => h.elim) (fun _ _ => trivial) HB10.out HB10.out.size (by have := HS3.out; simp only [List.length_cons, List.length_nil]; omega) ?_); intro v11 w11 ho hb hg hat; obtain ⟨A11, n11, rfl⟩ := Kd.R_slice ho; have HB11 := Aside0.mk hb; have HS11 := Aside0.mk ho; clear ho hb hg hat))
            go_meet
            exact ⟨_, A11, n11, by simp, HS11, ⟨by have := HS3.out; simp only [List.length_append, List.length_cons, List.length_nil]; omega⟩, HB11⟩
          · have hkb : (kd == 11) = false := by simp [hk11]
            have hkc : decide (kd = 11) = false := by simp [hk11]
            go_wp2
            go_meet
            exact ⟨s0, As0, cs0, rfl, HS9, ⟨by have := HS3.out; omega⟩, HB9⟩
        case rest =>
          obtain ⟨s, As, cs, rfl, HSc, HSLc, HBc⟩ := hcut
          clear t2 HB8 HS8 HB9 HS9 HSE HLF HFC HS3 HC4 HL4
          have hQc := blk_step HQ7.out HBc.out
          have q1 := cell_blk (j := 1) (u := .int .i64 q.f1) hQc rfl
          have q2 := cell_blk (j := 2) (u := .int .i64 q.f2) hQc rfl
          clear hQc
          go_upto_region 18 with fail
          go_quiet (first
            | (go_at_call_of 34 (q.f1); refine (herdsmanref1_Within.calls q.f1 0 3 a _ HWA.out).mono ?_; rintro e w' ⟨rfl, ⟨nd, rfl⟩⟩; exact ⟨rfl, _, World.drewN_drewN _ _ _⟩)
            | (go_at_call_of 34 (q.f2); refine (herdsmanref1_Within.calls q.f2 0 2 b _ HWB.out).mono ?_; rintro e w' ⟨rfl, ⟨nd, rfl⟩⟩; exact ⟨rfl, _, World.drewN_drewN _ _ _⟩))
          have HBd : Aside0 (Below w7.heap.size w7 (wc.drewN nq)) := ⟨pw_below_drewN HBc.out _⟩
          have HSd : Aside0 (Kd.R k25 25 (wc.drewN nq) w7.heap.size (fun _ => True) (.slice As s.length cs) s) := ⟨Kd.R_below HSc.out (pw_below_drewN (Below.refl _ _) _)⟩
          generalize wc.drewN nq = w12 at *
          have hX12 := blk_step HX7.out HBd.out
          have HX12 := Aside0.mk hX12
          have t0 := cell_blk (j := 0) (u := .int .i64 W) hX12 rfl
          have t1 := cell_blk (j := 1) (u := .int .i64 H) hX12 rfl
          have t2 := cell_blk (j := 2) (u := .slice At C.length ct) hX12 rfl
          have HB12 : Aside0 (Below wr.heap.size wr w12) := ⟨below_step HB7.out HBd.out⟩
          have HM12 := Aside0.mk (HM0.out.below HB12.out)
          have HR12 := Aside0.mk (HRS.out.below HB12.out)
          have hA12 : Handed3 w12 (fun y => own y ∨ ownr y) At ct C As cs s :=
            Handed3.of_rows (Kd.R_below HO7.out HBd.out) HSd.out (fun y hy hlt => by
              have h1 : y < wr.heap.size := hy.elim (fun h => (HOWN.out y h).2) (fun h => (HOWR.out y h).2)
              have h2 := HS47.out
              exact ⟨fun h3 _ => by omega, fun h3 _ => by omega⟩) HCL.out.2 (by have h1 := HCL.out.1; have h2 := HSLc.out; omega)
          have HA12 := Aside0.mk hA12
          have HGTo : Aside0 (∀ y, own y ∨ ownr y → y ≠ gt) := ⟨fun y hy e => by
            have h1 : y < wr.heap.size := hy.elim (fun h => (HOWN.out y h).2) (fun h => (HOWR.out y h).2)
            have h2 := HGT.out
            omega⟩
          have HLT : Aside0 (∀ y, own y ∨ ownr y → y < w12.heap.size) := ⟨fun y hy => by
            have h1 : y < wr.heap.size := hy.elim (fun h => (HOWN.out y h).2) (fun h => (HOWR.out y h).2)
            have h2 := HB12.out.size
            omega⟩
          clear hX12 hA12 q1 q2 HX7 HQ7 HO7 HS47 HB7 HBc HSc HBd HSd HGQ HMT HWA HWB HWV HWD
          generalize wc = wcA at *
          by_cases hok : SeedsOk W H C s
          case' pos =>
            obtain ⟨nf, hnf⟩ := rfield_some HCL.out.2 hok (by have := HSLc.out; omega)
            have HRF := Aside0.mk (hnf nf (Nat.le_refl _))
            have HOK := Aside0.mk hok
            clear hnf hok
            go_upto_region 20 with (first
              | (go_at_call 65; refine (get_calls HM12.out (fun b hb => HLT.out b (.inl hb)) HSL.out.2.1 HAB.out.1 HAB.out.2 (by have h1 := HSL.out; have h2 := HI.out; omega) (Cnt.upto_ok HCU.out (by have h2 := HI.out; omega)) (HA12.out.weak (fun _ h => .inl h)) HOK.out).mono ?_; rintro e w13 ⟨d11, r11, Ad, cd, Ae, ce, rfl, sv11, s11, nw11, od11, D11, ord11, fv11, kvs11, kps11, c11, N11, sl11, had11, out11, hm, hn, hwn, hl, hc, hd, hr, hg⟩; have HM13 := Aside0.mk hm; have HN13 := Aside0.mk (And.intro hn (And.intro hwn hl)); have HC13 := Aside0.mk hc; have HD13 := Aside0.mk hd; have HE13 := Aside0.mk hr; have HG13 := Aside0.mk hg; clear hm hn hwn hl hc hd hr hg t0 t1 t2)
              | ((with_reducible refine gate_dst (N := 17) rfl ?_); refine box_event ?hg (N := 17) ?hd (cs := #[.slice none 0 0, .slice none 0 0]) (t := 60) ?hr ?_; (case hd => rfl); (case hg => rfl); (case hr => first | (go_simp; done) | (go_simp; rfl)); intro gf hg w14 hbox hb; have z0 : w14.cell? ⟨gf, 0, none⟩ = _ := cell_blk hbox rfl; have z1 : w14.cell? ⟨gf, 1, none⟩ = _ := cell_blk hbox rfl; have f0 := free_blk hbox 0; have f1 := free_blk hbox 1; have HF14 := Aside0.mk hbox; have HGF : Aside0 (w13.heap.size ≤ gf) := ⟨by rw [hg]; exact Nat.le_refl _⟩; have HB14 := Aside0.mk hb; clear hb hbox hg))
            obtain ⟨w15, hw15⟩ : ∃ w15, w15 = ((w14.setCell ⟨gf, 0, none⟩ (.slice Ad d11.length cd)).setCell ⟨gf, 1, none⟩ (.slice Ae r11.length ce)) := ⟨_, rfl⟩
            rw [← hw15]
            have hB15 : Below w13.heap.size w13 w15 := by
              rw [hw15]
              exact (((Chg.of_below HB14.out (fun b => w13.heap.size ≤ b)).set_ (p := ⟨gf, 0, none⟩) (.inl HGF.out) _).set_ (p := ⟨gf, 1, none⟩) (.inl HGF.out) _).below (fun k hk => hk) (Nat.le_refl _)
            have hF15 : w15.heap[gf]? = some (.cells #[.slice Ad d11.length cd, .slice Ae r11.length ce] 60 (0, 0)) := by rw [hw15]; exact set_blk (set_blk HF14.out 0 _) 1 _
            have HF15 := Aside0.mk hF15
            have HB15 := Aside0.mk hB15
            have hX15 := blk_step (HC13.out.blk HX12.out (fun e => HGTo.out _ (.inl e) rfl)) hB15
            have t0 := cell_blk (j := 0) (u := .int .i64 W) hX15 rfl
            have t1 := cell_blk (j := 1) (u := .int .i64 H) hX15 rfl
            have t2 := cell_blk (j := 2) (u := .slice At C.length ct) hX15 rfl
            have HR15 := Aside0.mk ((HR12.out.chg HC13.out (fun y hy e => HDIS.out y e hy)).below hB15)
            have HA15 := Aside0.mk ((HA12.out.chg ((HC13.out.mono (fun _ h => .inl h)).trans (Chg.of_below hB15 _))).weak (own := ownr) (fun _ h => .inr h))
            have HL15 : Aside0 (∀ y, ownr y → y < w15.heap.size ∧ y ≠ gf) := ⟨fun y hy => by
              have h1 := HLT.out y (.inr hy)
              have h2 := HC13.out.size
              have h3 := hB15.size
              have h4 := HGF.out
              omega⟩
            clear hw15 hB15 hF15 hX15 z0 z1 f0 f1 HF14 HB14
            go_upto_region 21 with (first
              | (go_at_call 69; refine (getR_calls (a := a) (b := b) (ver := ver) HR15.out (fun b hb => (HL15.out b hb).1) HA15.out HOK.out HRF.out (by rw [(distOf_spec HCL.out.2 HOK.out).1, dirs_len]; have := HCL.out.1; omega) (by have h1 := HSL.out; have h2 := HI.out; omega) (by have := HK1.out; omega) (Cnt.upto_ok HCU.out (by have h2 := HI.out; omega))).mono ?_; rintro e w16 ⟨x0, st, hst, rfl, v16, ownr16, hr, hro, hc⟩; have HR16 := Aside0.mk hr; have HRO16 := Aside0.mk hro; have HC16 := Aside0.mk hc; have HST := Aside0.mk hst; clear hr hro hc hst t0 t1 t2)
              | ((with_reducible refine gate_dst (N := 19) rfl ?_); refine box_event ?hg (N := 19) ?hd (cs := #[.slice none 0 0, .slice none 0 0]) (t := 60) ?hr ?_; (case hd => rfl); (case hg => rfl); (case hr => first | (go_simp; done) | (go_simp; rfl)); intro gg hg w17 hbox hb; have z0 : w17.cell? ⟨gg, 0, none⟩ = _ := cell_blk hbox rfl; have z1 : w17.cell? ⟨gg, 1, none⟩ = _ := cell_blk hbox rfl; have f0 := free_blk hbox 0; have f1 := free_blk hbox 1; have HF17 := Aside0.mk hbox; have HGG : Aside0 (w16.heap.size ≤ gg) := ⟨by rw [hg]; exact Nat.le_refl _⟩; have HB17 := Aside0.mk hb; clear hb hbox hg))
            obtain ⟨wz, hwz⟩ : ∃ wz, wz = ((w17.setCell ⟨gg, 0, none⟩ (.slice st.x.1.dA st.x.1.dn st.x.1.dc)).setCell ⟨gg, 1, none⟩ (.slice st.x.1.rA st.x.1.rn st.x.1.rc)) := ⟨_, rfl⟩
            rw [← hwz]
            have hBz : Below w16.heap.size w16 wz := by
              rw [hwz]
              exact (((Chg.of_below HB17.out (fun b => w16.heap.size ≤ b)).set_ (p := ⟨gg, 0, none⟩) (.inl HGG.out) _).set_ (p := ⟨gg, 1, none⟩) (.inl HGG.out) _).below (fun k hk => hk) (Nat.le_refl _)
            have hFz : wz.heap[gg]? = some (.cells #[.slice st.x.1.dA st.x.1.dn st.x.1.dc, .slice st.x.1.rA st.x.1.rn st.x.1.rc] 60 (0, 0)) := by rw [hwz]; exact set_blk (set_blk HF17.out 0 _) 1 _
            have HMEET : Aside0 (Meet w wz sb lb rb k (i + 1) gf gg) := by
              obtain ⟨e1, e2, e3, e4⟩ := PL.got HB12.out HBW.out HOWN.out HOWR.out HDIS.out HCU.out HSL.out HPI.out HM12.out.lru.room HK1.out.1 HM13.out HN13.out.1 HN13.out.2.1 HN13.out.2.2 HC13.out HG13.out HB15.out HST.out HR16.out HRO16.out HC16.out hBz
              have hnr : ∀ y, N11 ≤ y ∧ y < w15.heap.size → ¬ ownr y := fun y hy e => by
                have h1 := HLT.out y (.inr e)
                have h2 := HN13.out.2.1
                omega
              have hD := Kd.R_below (HC16.out.R (Kd.R_bound (Kd.R_below HD13.out HB15.out)) (fun y hy e => hnr y ⟨hy.2.1, hy.2.2.1⟩ e)) hBz
              have hE := Kd.R_below (HC16.out.R (Kd.R_bound (Kd.R_below HE13.out HB15.out)) (fun y hy e => hnr y ⟨hy.2.1, hy.2.2.1⟩ e)) hBz
              have hgf := blk_step (HC16.out.blk HF15.out (fun e => (HL15.out _ e).2 rfl)) hBz
              have hd := e4.dist
              have hr := e4.dirs
              have hdn := e4.dn
              have hrn := e4.rn
              rw [e1] at hd hdn
              rw [e2] at hr hrn
              rw [hdn.1, hrn.1] at hFz
              exact ⟨⟨⟨d11, r11, Ad, cd, Ae, ce, _, _, _, _, hgf, hFz, R_C hD, R_C hE, ⟨hd, by have := hdn.2.1; omega⟩, ⟨hr, by have := hrn.2.1; omega⟩, by have := hdn.2.2; omega, by have := hrn.2.2; omega⟩, e3⟩⟩
            clear hwz hBz hFz z0 z1 f0 f1 HF17 HB17 HGG HGF HC16 HST HR16 HRO16 HL15 HA15 HR15 HF15 HB15 HG13 HE13 HD13 HC13 HN13 HM13 HRF HOK
          case' neg =>
            have HOK := Aside0.mk hok
            clear hok
            go_upto_region 20 with (first
              | (go_at_call 65; refine (get_no sb w12 a b ver (HA12.out.weak (own := own) (fun _ h => .inl h)) HOK.out).mono ?_; rintro e w13 ⟨rfl, hb⟩; have HB13 := Aside0.mk hb; clear hb t0 t1 t2)
              | ((with_reducible refine gate_dst (N := 17) rfl ?_); refine box_event ?hg (N := 17) ?hd (cs := #[.slice none 0 0, .slice none 0 0]) (t := 60) ?hr ?_; (case hd => rfl); (case hg => rfl); (case hr => first | (go_simp; done) | (go_simp; rfl)); intro gf hg w14 hbox hb; have z0 : w14.cell? ⟨gf, 0, none⟩ = _ := cell_blk hbox rfl; have z1 : w14.cell? ⟨gf, 1, none⟩ = _ := cell_blk hbox rfl; have f0 := free_blk hbox 0; have f1 := free_blk hbox 1; have HF14 := Aside0.mk hbox; have HGF : Aside0 (w13.heap.size ≤ gf) := ⟨by rw [hg]; exact Nat.le_refl _⟩; have HB14 := Aside0.mk hb; clear hb hbox hg))
            obtain ⟨w15, hw15⟩ : ∃ w15, w15 = ((w14.setCell ⟨gf, 0, none⟩ (.slice none 0 0)).setCell ⟨gf, 1, none⟩ (.slice none 0 0)) := ⟨_, rfl⟩
            rw [← hw15]
            have hB15 : Below w12.heap.size w12 w15 := by
              rw [hw15]
              exact below_step HB13.out ((((Chg.of_below HB14.out (fun b => w13.heap.size ≤ b)).set_ (p := ⟨gf, 0, none⟩) (.inl HGF.out) _).set_ (p := ⟨gf, 1, none⟩) (.inl HGF.out) _).below (fun k hk => hk) (Nat.le_refl _))
            have hF15 : w15.heap[gf]? = some (.cells #[.slice none 0 0, .slice none 0 0] 60 (0, 0)) := by rw [hw15]; exact set_blk (set_blk HF14.out 0 _) 1 _
            have HF15 := Aside0.mk hF15
            have HB15 := Aside0.mk hB15
            have hX15 := blk_step HX12.out hB15
            have t0 := cell_blk (j := 0) (u := .int .i64 W) hX15 rfl
            have t1 := cell_blk (j := 1) (u := .int .i64 H) hX15 rfl
            have t2 := cell_blk (j := 2) (u := .slice At C.length ct) hX15 rfl
            have HA15 := Aside0.mk ((HA12.out.chg (Chg.of_below hB15 _)).weak (own := ownr) (fun _ h => .inr h))
            clear hw15 hB15 hF15 hX15 z0 z1 f0 f1 HF14 HB14
            go_upto_region 21 with (first
              | (go_at_call 69; refine (getR_no rb w15 a b ver HA15.out HOK.out).mono ?_; rintro e w16 ⟨rfl, hb⟩; have HB16 := Aside0.mk hb; clear hb t0 t1 t2)
              | ((with_reducible refine gate_dst (N := 19) rfl ?_); refine box_event ?hg (N := 19) ?hd (cs := #[.slice none 0 0, .slice none 0 0]) (t := 60) ?hr ?_; (case hd => rfl); (case hg => rfl); (case hr => first | (go_simp; done) | (go_simp; rfl)); intro gg hg w17 hbox hb; have z0 : w17.cell? ⟨gg, 0, none⟩ = _ := cell_blk hbox rfl; have z1 : w17.cell? ⟨gg, 1, none⟩ = _ := cell_blk hbox rfl; have f0 := free_blk hbox 0; have f1 := free_blk hbox 1; have HF17 := Aside0.mk hbox; have HGG : Aside0 (w16.heap.size ≤ gg) := ⟨by rw [hg]; exact Nat.le_refl _⟩; have HB17 := Aside0.mk hb; clear hb hbox hg))
            obtain ⟨wz, hwz⟩ : ∃ wz, wz = ((w17.setCell ⟨gg, 0, none⟩ (.slice none 0 0)).setCell ⟨gg, 1, none⟩ (.slice none 0 0)) := ⟨_, rfl⟩
            rw [← hwz]
            have hBz : Below w15.heap.size w15 wz := by
              rw [hwz]
              exact below_step HB16.out ((((Chg.of_below HB17.out (fun b => w16.heap.size ≤ b)).set_ (p := ⟨gg, 0, none⟩) (.inl HGG.out) _).set_ (p := ⟨gg, 1, none⟩) (.inl HGG.out) _).below (fun k hk => hk) (Nat.le_refl _))
            have hFz : wz.heap[gg]? = some (.cells #[.slice none 0 0, .slice none 0 0] 60 (0, 0)) := by rw [hwz]; exact set_blk (set_blk HF17.out 0 _) 1 _
            have HMEET : Aside0 (Meet w wz sb lb rb k (i + 1) gf gg) := ⟨⟨⟨[], [], none, 0, none, 0, none, 0, none, 0, blk_step HF15.out hBz, hFz, ⟨Kd.C_nil _ _, Nat.le_refl _⟩, ⟨Kd.C_nil _ _, Nat.le_refl _⟩, ⟨Kd.C_nil _ _, Nat.le_refl _⟩, ⟨Kd.C_nil _ _, Nat.le_refl _⟩, Nat.zero_le _, Nat.zero_le _⟩, (PL.step (wr := wr) ⟨⟨own, mb', sv, seats, nw, od, D, ord, fv, kvs, kps, c, ownr, v, Z, HM0.out, HRS.out, HOWN.out, HOWR.out, HDIS.out, HCU.out, HSL.out, HPI.out⟩, HBW.out⟩ (below_step (below_step HB12.out HB15.out) hBz)).up⟩⟩
            clear hwz hBz hFz z0 z1 f0 f1 HF17 HB17 HGG HGF HB16 HA15 HF15 HB15 HB13 HOK
          all_goals
            clear HM12 HR12 HA12 HGTo HLT HX12 HB12 HOWN HOWR HDIS HCU HSL HPI HBW HM0 HRS
            have HPLz := Aside0.mk HMEET.out.pl
            obtain ⟨D, E, Ad, cd, Ae, ce, Ax, cx, Ay, cy, hgf, hgg, hDa, hEa, hDx, hEx, hDl, hEl⟩ := HMEET.out.ex
            obtain ⟨⟨own', mb2, sv', seats', nw', od', D', ord', fv', kvs', kps', c', ownr', v', Z', hM', hR', ho1, ho2, ho3, hcu', hsl', hPI'⟩, hBz⟩ := HMEET.out.pl
            have t0 := cell_blk (j := 0) (u := .slice Ad D.length cd) hgf rfl
            have t1 := cell_blk (j := 1) (u := .slice Ae E.length ce) hgf rfl
            have t2 := cell_blk (j := 0) (u := .slice Ax D.length cx) hgg rfl
            have t3 := cell_blk (j := 1) (u := .slice Ay E.length cy) hgg rfl
            have t4 := cell_blk (j := 2) (u := .int .u64 c'.re) hR'.blk rfl
            have t5 := cell_blk (j := 3) (u := .int .u64 c'.se) hR'.blk rfl
            have t6 := cell_blk (j := 4) (u := .int .u64 c'.bu) hR'.blk rfl
            have t7 := cell_blk (j := 5) (u := .int .u64 c'.hi) hR'.blk rfl
            have t8 := cell_blk (j := 6) (u := .int .u64 c'.st) hR'.blk rfl
            have t9 := cell_blk (j := 7) (u := .int .u64 c'.ev) hR'.blk rfl
            have HDa := Aside0.mk hDa
            have HEa := Aside0.mk hEa
            have HDx := Aside0.mk hDx
            have HEx := Aside0.mk hEx
            have HSF := Aside0.mk (sameField_own D E (by omega) (by omega) 5000 (by omega))
            have HMz := Aside0.mk hM'
            have HRz := Aside0.mk hR'
            obtain ⟨xs, hxs⟩ : ∃ xs, xs = ord'.map (keyF seats') := ⟨_, rfl⟩
            have hZl := hPI'.len
            have hol : ord'.length = seats'.length := by
              have h1 := congrArg List.length hPI'.kl
              simp only [List.length_map] at h1
              omega
            have HKL := Aside0.mk (hPI'.kl.trans hxs.symm)
            have HXL : Aside0 (xs.length ≤ 1000) := ⟨by rw [hxs, List.length_map]; have h1 := HI.out; have h2 := hsl'.1; omega⟩
            have HNL : Aside0 (seats'.length ≤ 1000000 ∧ Z'.length ≤ 1000) := ⟨by have h1 := HI.out; have h2 := hsl'.1; omega⟩
            have HXS := Aside0.mk hxs
            have HZZ : Aside0 (Below wz.heap.size wz wz) := ⟨Below.refl _ _⟩
            clear hgf hgg hDa hEa hDx hEx hDl hEl hM' hR' ho1 ho2 ho3 hcu' hsl' hPI' hBz hxs hZl hol HMEET
            go_upto_region 21 with fail
            go_region_held3 (fun w' => w'.cell? ⟨gf, 0, none⟩ = some (.slice Ad D.length cd) ∧ w'.cell? ⟨gf, 1, none⟩ = some (.slice Ae E.length ce) ∧ w'.cell? ⟨gg, 0, none⟩ = some (.slice Ax D.length cx) ∧ w'.cell? ⟨gg, 1, none⟩ = some (.slice Ay E.length cy) ∧ w'.cell? ⟨rb, 2, none⟩ = some (.int .u64 c'.re) ∧ w'.cell? ⟨rb, 3, none⟩ = some (.int .u64 c'.se) ∧ w'.cell? ⟨rb, 4, none⟩ = some (.int .u64 c'.bu) ∧ w'.cell? ⟨rb, 5, none⟩ = some (.int .u64 c'.hi) ∧ w'.cell? ⟨rb, 6, none⟩ = some (.int .u64 c'.st) ∧ w'.cell? ⟨rb, 7, none⟩ = some (.int .u64 c'.ev))
              (first | exact ⟨t0, t1, t2, t3, t4, t5, t6, t7, t8, t9⟩ | exact ⟨u0, u1, u2, u3, u4, u5, u6, u7, u8, u9⟩ | (with_reducible refine ⟨pw_cell_below ?_ t0, pw_cell_below ?_ t1, pw_cell_below ?_ t2, pw_cell_below ?_ t3, pw_cell_below ?_ t4, pw_cell_below ?_ t5, pw_cell_below ?_ t6, pw_cell_below ?_ t7, pw_cell_below ?_ t8, pw_cell_below ?_ t9⟩ <;> ((repeat (first | exact HZZ.out | apply below_alloc | apply pw_below_drewN | apply below_drew1)); done)) | go_keep)
              (first
                | (go_at_call 59; refine (herdsmanref7_SameField.calls 5000 Ad cd D Ae ce E Ax cx D Ay cy E true _ (Kd.C_below HDa.out.1 (by (repeat (with_reducible first | exact HB24.out | exact HB23.out | exact HB22.out | exact HB21.out | exact HZZ.out | apply below_alloc | apply pw_below_drewN | apply below_drew1)))) HDa.out.2 (Kd.C_below HEa.out.1 (by (repeat (with_reducible first | exact HB24.out | exact HB23.out | exact HB22.out | exact HB21.out | exact HZZ.out | apply below_alloc | apply pw_below_drewN | apply below_drew1)))) HEa.out.2 (Kd.C_below HDx.out.1 (by (repeat (with_reducible first | exact HB24.out | exact HB23.out | exact HB22.out | exact HB21.out | exact HZZ.out | apply below_alloc | apply pw_below_drewN | apply below_drew1)))) HDx.out.2 (Kd.C_below HEx.out.1 (by (repeat (with_reducible first | exact HB24.out | exact HB23.out | exact HB22.out | exact HB21.out | exact HZZ.out | apply below_alloc | apply pw_below_drewN | apply below_drew1)))) HEx.out.2 HSF.out).mono ?_; rintro e w21 ⟨rfl, hb⟩; have hbz := below_step (by (repeat (with_reducible first | exact HB24.out | exact HB23.out | exact HB22.out | exact HB21.out | exact HZZ.out | apply below_alloc | apply pw_below_drewN | apply below_drew1))) hb; have u0 := pw_cell_below hbz (a := ⟨gf, 0, none⟩) (v := .slice Ad D.length cd) t0; have u1 := pw_cell_below hbz (a := ⟨gf, 1, none⟩) (v := .slice Ae E.length ce) t1; have u2 := pw_cell_below hbz (a := ⟨gg, 0, none⟩) (v := .slice Ax D.length cx) t2; have u3 := pw_cell_below hbz (a := ⟨gg, 1, none⟩) (v := .slice Ay E.length cy) t3; have u4 := pw_cell_below hbz (a := ⟨rb, 2, none⟩) (v := .int .u64 c'.re) t4; have u5 := pw_cell_below hbz (a := ⟨rb, 3, none⟩) (v := .int .u64 c'.se) t5; have u6 := pw_cell_below hbz (a := ⟨rb, 4, none⟩) (v := .int .u64 c'.bu) t6; have u7 := pw_cell_below hbz (a := ⟨rb, 5, none⟩) (v := .int .u64 c'.hi) t7; have u8 := pw_cell_below hbz (a := ⟨rb, 6, none⟩) (v := .int .u64 c'.st) t8; have u9 := pw_cell_below hbz (a := ⟨rb, 7, none⟩) (v := .int .u64 c'.ev) t9; have HB21 := Aside0.mk hbz; skip; clear hb hbz)
                | (go_at_call 67; refine (countS_calls (HMz.out.below (by (repeat (with_reducible first | exact HB24.out | exact HB23.out | exact HB22.out | exact HB21.out | exact HZZ.out | apply below_alloc | apply pw_below_drewN | apply below_drew1))))).mono ?_; rintro e w22 ⟨he, hb⟩; rw [show cntV c' = .agg #[.int .u64 c'.re, .int .u64 c'.se, .int .u64 c'.bu, .int .u64 c'.hi, .int .u64 c'.st, .int .u64 c'.ev] from rfl] at he; subst he; have hbz := below_step (by (repeat (with_reducible first | exact HB24.out | exact HB23.out | exact HB22.out | exact HB21.out | exact HZZ.out | apply below_alloc | apply pw_below_drewN | apply below_drew1))) hb; have u0 := pw_cell_below hbz (a := ⟨gf, 0, none⟩) (v := .slice Ad D.length cd) t0; have u1 := pw_cell_below hbz (a := ⟨gf, 1, none⟩) (v := .slice Ae E.length ce) t1; have u2 := pw_cell_below hbz (a := ⟨gg, 0, none⟩) (v := .slice Ax D.length cx) t2; have u3 := pw_cell_below hbz (a := ⟨gg, 1, none⟩) (v := .slice Ay E.length cy) t3; have u4 := pw_cell_below hbz (a := ⟨rb, 2, none⟩) (v := .int .u64 c'.re) t4; have u5 := pw_cell_below hbz (a := ⟨rb, 3, none⟩) (v := .int .u64 c'.se) t5; have u6 := pw_cell_below hbz (a := ⟨rb, 4, none⟩) (v := .int .u64 c'.bu) t6; have u7 := pw_cell_below hbz (a := ⟨rb, 5, none⟩) (v := .int .u64 c'.hi) t7; have u8 := pw_cell_below hbz (a := ⟨rb, 6, none⟩) (v := .int .u64 c'.st) t8; have u9 := pw_cell_below hbz (a := ⟨rb, 7, none⟩) (v := .int .u64 c'.ev) t9; have HB22 := Aside0.mk hbz; skip; clear hb hbz)
                | (go_at_call 71; refine (keysS_calls (HMz.out.below (by (repeat (with_reducible first | exact HB24.out | exact HB23.out | exact HB22.out | exact HB21.out | exact HZZ.out | apply below_alloc | apply pw_below_drewN | apply below_drew1)))) HNL.out.1).mono ?_; rintro e w23 ⟨v23, rfl, ho, hb⟩; rw [← HXS.out] at ho; obtain ⟨Ak, nk, rfl⟩ := Kd.R_slice ho; have hbz := below_step (by (repeat (with_reducible first | exact HB24.out | exact HB23.out | exact HB22.out | exact HB21.out | exact HZZ.out | apply below_alloc | apply pw_below_drewN | apply below_drew1))) hb; have u0 := pw_cell_below hbz (a := ⟨gf, 0, none⟩) (v := .slice Ad D.length cd) t0; have u1 := pw_cell_below hbz (a := ⟨gf, 1, none⟩) (v := .slice Ae E.length ce) t1; have u2 := pw_cell_below hbz (a := ⟨gg, 0, none⟩) (v := .slice Ax D.length cx) t2; have u3 := pw_cell_below hbz (a := ⟨gg, 1, none⟩) (v := .slice Ay E.length cy) t3; have u4 := pw_cell_below hbz (a := ⟨rb, 2, none⟩) (v := .int .u64 c'.re) t4; have u5 := pw_cell_below hbz (a := ⟨rb, 3, none⟩) (v := .int .u64 c'.se) t5; have u6 := pw_cell_below hbz (a := ⟨rb, 4, none⟩) (v := .int .u64 c'.bu) t6; have u7 := pw_cell_below hbz (a := ⟨rb, 5, none⟩) (v := .int .u64 c'.hi) t7; have u8 := pw_cell_below hbz (a := ⟨rb, 6, none⟩) (v := .int .u64 c'.st) t8; have u9 := pw_cell_below hbz (a := ⟨rb, 7, none⟩) (v := .int .u64 c'.ev) t9; have HB23 := Aside0.mk hbz; have HK23 := Aside0.mk (R_C ho); clear ho; clear hb hbz)
                | (go_at_call 72; refine (keysR_calls (HRz.out.below (by (repeat (with_reducible first | exact HB24.out | exact HB23.out | exact HB22.out | exact HB21.out | exact HZZ.out | apply below_alloc | apply pw_below_drewN | apply below_drew1)))) HNL.out.2).mono ?_; rintro e w24 ⟨v24, rfl, ho, hb⟩; rw [HKL.out] at ho; obtain ⟨Al, nl, rfl⟩ := Kd.R_slice ho; have hbz := below_step (by (repeat (with_reducible first | exact HB24.out | exact HB23.out | exact HB22.out | exact HB21.out | exact HZZ.out | apply below_alloc | apply pw_below_drewN | apply below_drew1))) hb; have u0 := pw_cell_below hbz (a := ⟨gf, 0, none⟩) (v := .slice Ad D.length cd) t0; have u1 := pw_cell_below hbz (a := ⟨gf, 1, none⟩) (v := .slice Ae E.length ce) t1; have u2 := pw_cell_below hbz (a := ⟨gg, 0, none⟩) (v := .slice Ax D.length cx) t2; have u3 := pw_cell_below hbz (a := ⟨gg, 1, none⟩) (v := .slice Ay E.length cy) t3; have u4 := pw_cell_below hbz (a := ⟨rb, 2, none⟩) (v := .int .u64 c'.re) t4; have u5 := pw_cell_below hbz (a := ⟨rb, 3, none⟩) (v := .int .u64 c'.se) t5; have u6 := pw_cell_below hbz (a := ⟨rb, 4, none⟩) (v := .int .u64 c'.bu) t6; have u7 := pw_cell_below hbz (a := ⟨rb, 5, none⟩) (v := .int .u64 c'.hi) t7; have u8 := pw_cell_below hbz (a := ⟨rb, 6, none⟩) (v := .int .u64 c'.st) t8; have u9 := pw_cell_below hbz (a := ⟨rb, 7, none⟩) (v := .int .u64 c'.ev) t9; have HB24 := Aside0.mk hbz; have HK24 := Aside0.mk (R_C ho); have HB34 : Aside0 (Below w23.heap.size w23 w24) := ⟨below_step (by (repeat (first | (with_reducible exact Below.refl _ _) | (with_reducible apply below_alloc) | (with_reducible apply pw_below_drewN) | (with_reducible apply below_drew1)))) hb⟩; clear ho; clear hb hbz)
                | (go_at_call 70; refine (sameKeys_calls Ak Al nk nl xs (Kd.C_below HK23.out.1 (by (repeat (first | (with_reducible exact HB34.out) | (with_reducible apply below_alloc) | (with_reducible apply pw_below_drewN) | (with_reducible apply below_drew1))))) HK23.out.2 (Kd.C_below HK24.out.1 (by (repeat (first | (with_reducible exact Below.refl _ _) | (with_reducible apply below_alloc) | (with_reducible apply pw_below_drewN) | (with_reducible apply below_drew1))))) HK24.out.2 HXL.out).mono ?_; rintro e w25 ⟨rfl, hb⟩; have hbz := below_step (by (repeat (with_reducible first | exact HB24.out | exact HB23.out | exact HB22.out | exact HB21.out | exact HZZ.out | apply below_alloc | apply pw_below_drewN | apply below_drew1))) hb; have u0 := pw_cell_below hbz (a := ⟨gf, 0, none⟩) (v := .slice Ad D.length cd) t0; have u1 := pw_cell_below hbz (a := ⟨gf, 1, none⟩) (v := .slice Ae E.length ce) t1; have u2 := pw_cell_below hbz (a := ⟨gg, 0, none⟩) (v := .slice Ax D.length cx) t2; have u3 := pw_cell_below hbz (a := ⟨gg, 1, none⟩) (v := .slice Ay E.length cy) t3; have u4 := pw_cell_below hbz (a := ⟨rb, 2, none⟩) (v := .int .u64 c'.re) t4; have u5 := pw_cell_below hbz (a := ⟨rb, 3, none⟩) (v := .int .u64 c'.se) t5; have u6 := pw_cell_below hbz (a := ⟨rb, 4, none⟩) (v := .int .u64 c'.bu) t6; have u7 := pw_cell_below hbz (a := ⟨rb, 5, none⟩) (v := .int .u64 c'.hi) t7; have u8 := pw_cell_below hbz (a := ⟨rb, 6, none⟩) (v := .int .u64 c'.st) t8; have u9 := pw_cell_below hbz (a := ⟨rb, 7, none⟩) (v := .int .u64 c'.ev) t9; have HB25 := Aside0.mk hbz; clear hb hbz))
            clear t0 t1 t2 t3 t4 t5 t6 t7 t8 t9 u0 u1 u2 u3 u4 u5 u6 u7 u8 u9
            go_wp2_with fail
            go_roundg (40 - (i + 1))
            case measure => have := HI.out; omega
            case rel => exact ⟨i + 1, by first | rfl | (rw [w64 (n := (i : Int) + 1) (by omega) (by omega)]; rfl), by have := HI.out; omega, Nat.le_refl _, ⟨HPLz.out.step HB25.out⟩⟩
    · have HPL3 := HPL
      have fin : ∀ (P : Prop), (i < l2.length → ¬ i < 40 → P) → (¬ i < l2.length → P) → P := fun P h1 h2 => if h : i < l2.length then h1 h (fun h3 => hlt ⟨h, h3⟩) else h2 h
      refine fin _ (fun ha hb => ?_) (fun ha => ?_)
      case' refine_1 =>
        have d1 : (i : Int) < (l2.length : Int) := by omega
        have d2 : ¬ (i : Int) < 40 := by omega
        have d3 : decide ((i : Int) < 40) = false := decide_eq_false d2
      case' refine_2 =>
        have d1 : ¬ (i : Int) < (l2.length : Int) := by omega
        have d3 : decide ((i : Int) < (l2.length : Int)) = false := decide_eq_false d1
      all_goals
        clear fin
        go_wp2_with (go_at_call 66; refine (told19_calls _).mono ?_; rintro e w21 ⟨rfl, hb⟩; have HB21 := Aside0.mk hb; clear hb)
        go_ret
        exact ⟨rfl, below_step HPL3.out.below HB21.out⟩
/-- As the row's form wants it. -/
noncomputable def shelfPlaysH.f (n : Nat) (a0 : Int) (l1 : List Int) (l2 : List Ask) : Option Bool := open Classical in if l1.length ≤ 140737488355328 ∧ ∀ x ∈ l1, 0 ≤ x ∧ x ≤ 255 then some true else none
theorem shelfPlaysH.calls (n : Nat) (a0 : Int) (A1 : Option Addr) (c1 : Nat) (l1 : List Int) (A2 : Option Addr) (c2 : Nat) (l2 : List Ask) (r : Bool) (w : World) (hr1 : Kd.C (Kd.int .u8) w A1 l1.length l1) (hc1 : l1.length ≤ c1) (hr2 : Kd.C kAsk w A2 l2.length l2) (hc2 : l2.length ≤ c2) (h : shelfPlaysH.f n a0 l1 l2 = some r) :
    Calls Try.prog 25 #[.int .i64 a0, .slice A1 l1.length c1, .slice A2 l2.length c2] w fun e w' => e = .returned (.bool r) ∧ Below w.heap.size w w' := by
  unfold shelfPlaysH.f at h
  split at h
  · rename_i hb
    obtain rfl := Option.some.inj h
    exact shelfPlays_calls a0 A1 c1 l1 A2 c2 l2 w hr1 hc1 hr2 hc2 hb.1 hb.2
  · exact absurd h (by simp)
end Go.Proofs.Ytgcfcemgeppkmaa.P
