/-
  herdsmanlaw19.ShelfCounts: each call that may be is a hit or a build; what went out, and what is there, was built.
-/
import Derived.Test.YtgcfcemgeppkmaaXAsk
import Derived.Test.YtgcfcemgeppkmaaXShelfFlush
import Derived.ChangeKeysEq
namespace Go.Proofs.Ytgcfcemgeppkmaa.P
open Go.RowKit Go.Proofs.YtgcfcemgeppkmaaW.PrintWords Go.Proofs.YtgcfcemgeppkmaaW.PrintLast Go.Proofs.YtgcfcemgeppkmaaW.PrintMore
open Go.Proofs.Ytgcfcemgeppkmaa.Ord Go.Proofs.Ytgcfcemgeppkmaa.Dist
set_option linter.unusedVariables false
set_option linter.unusedSimpArgs false
attribute [local go_sem] max2_int min2_int max_two min_two max_three min_three max_four min_four
theorem eqKey (d : Nat) (w : World) (a b a' b' : Int) : (Op.equalIn (d + 2) 86 (.agg #[.int .i64 a, .int .i64 b]) (.agg #[.int .i64 a', .int .i64 b'])).run Try.prog w = .ok (a == a' && b == b') w := by
  obtain ⟨i, hi, _, _, _⟩ := info_parts info3
  have c1 : Try.prog.cellsOf 3 = 1 := by kernel_rfl
  rw [run_equalIn_array w (d + 1) _ _ Try.underlying86 hi, c1]
  have hl : List.range 2 = [0, 1] := rfl
  rw [hl]
  have p0 : (part 3 #[Value.int .i64 a, .int .i64 b] (0 * 1)).run Try.prog w = .ok (.int .i64 a) w := by go_simp
  have p1 : (part 3 #[Value.int .i64 a, .int .i64 b] (1 * 1)).run Try.prog w = .ok (.int .i64 b) w := by go_simp
  have p2 : (part 3 #[Value.int .i64 a', .int .i64 b'] (0 * 1)).run Try.prog w = .ok (.int .i64 a') w := by go_simp
  have p3 : (part 3 #[Value.int .i64 a', .int .i64 b'] (1 * 1)).run Try.prog w = .ok (.int .i64 b') w := by go_simp
  have e0 : (Op.equalIn (d + 1) 3 (.int .i64 a) (.int .i64 a')).run Try.prog w = .ok (a == a') w := by go_simp
  have e1 : (Op.equalIn (d + 1) 3 (.int .i64 b) (.int .i64 b')).run Try.prog w = .ok (b == b') w := by go_simp
  rw [Op.eqItems, Sem.run_bind, p0, Result.andThen_ok, Sem.run_bind, p2, Result.andThen_ok, Sem.run_bind, e0, Result.andThen_ok]
  rw [Op.eqItems]
  cases a == a'
  · simp
  · have hnil : Op.eqItems (d + 1) 3 1 #[Value.int .i64 a, .int .i64 b] #[Value.int .i64 a', .int .i64 b'] [] = pure true := rfl
    rw [if_neg (by simp), Sem.run_bind, p1, Result.andThen_ok, Sem.run_bind, p3, Result.andThen_ok, Sem.run_bind, e1, Result.andThen_ok, hnil]
    cases b == b' <;> simp
attribute [local go_sem high] eqKey
theorem key0 {w : World} {base n : Nat} {ok : Nat → Prop} {A : Option Addr} {xs : List (Int × Int)} (h : Kd.R kKey 86 w base ok (.slice A xs.length n) xs) {a b : Int} {r : List (Int × Int)} (hx : xs = (a, b) :: r) : ∃ g, A = some ⟨g, 0, none⟩ ∧ w.cell? ⟨g, 0, none⟩ = some (.int .i64 a) ∧ w.cell? ⟨g, 1, none⟩ = some (.int .i64 b) := by
  have hl : 0 < xs.length := by rw [hx]; simp
  obtain ⟨ad, c, e, _, hK, hc⟩ := Kd.C_get (R_C h).1 ((0, 0) : Int × Int) 0 (by omega) (by omega)
  subst e
  obtain ⟨g, rfl⟩ := Kd.R_head h
  have hg : xs.getD (0 : Int).toNat (0, 0) = (a, b) := by rw [hx]; rfl
  rw [hg] at hK
  have hk := kKey_open hK
  subst hk
  have h0 := hc 0 _ rfl
  have h1 := hc 1 _ rfl
  rw [add_plain] at h0 h1
  exact ⟨g, rfl, h0, h1⟩
theorem heapAtI (w : World) (o : Obj) (k : Nat) (h : k = w.heap.size) : (w.alloc o).heap[k]? = some o := by
  subst h
  exact heap_alloc_new w o
theorem within_rng (x : Int) (n : Int) (h : 0 ≤ n) (hn : n ≤ 1000) (lo : Int) (hl : 0 ≤ lo ∧ lo ≤ 1000) : ∃ a : Int, herdsmanref1_Within.f x lo (lo + n) = some a ∧ lo ≤ a ∧ a ≤ lo + n := by
  refine ⟨_, within_some x (by omega) (by omega) (by omega), ?_, ?_⟩
  · have := Int.emod_nonneg x (show lo + n - lo + 1 ≠ 0 by omega)
    omega
  · have := Int.emod_lt_of_pos x (show 0 < lo + n - lo + 1 by omega)
    omega
/-- The shelf between two calls: its counts; a is Prop of the last call. -/
structure CL (w wr : World) (sb lb : Nat) (k : Int) (lo hi : Nat) (asks fl : Int) (last : (Nat → Int × Int) → List Nat → Prop) : Prop where
  ex : ∃ (own : Nat → Prop) (mb : Nat) (sv : Value) (seats : List Seat) (nw od : Int) (D : DataW Unit) (ord : List Nat) (fv : Value) (kvs : List Kv) (kps : List Kept) (c : Cnt), ShelfM wr own sb lb k sv mb seats nw od D ord fv kvs kps c ∧ (∀ b, own b → w.heap.size ≤ b ∧ b < wr.heap.size ∧ (b < lo ∨ hi ≤ b)) ∧ CountI c seats.length asks fl ∧ kvs.length = seats.length ∧ last (keyF seats) ord
  below : Below w.heap.size w wr
theorem CL.step {w wr w' : World} {sb lb lo hi : Nat} {k asks fl : Int} {last : (Nat → Int × Int) → List Nat → Prop} (h : CL w wr sb lb k lo hi asks fl last) (hb : Below wr.heap.size wr w') : CL w w' sb lb k lo hi asks fl last := by
  obtain ⟨⟨own, mb, sv, seats, nw, od, D, ord, fv, kvs, kps, c, h1, h2, h3⟩, h4⟩ := h
  exact ⟨⟨own, mb, sv, seats, nw, od, D, ord, fv, kvs, kps, c, h1.below hb, fun b hbb => ⟨(h2 b hbb).1, Nat.lt_of_lt_of_le (h2 b hbb).2.1 hb.size, (h2 b hbb).2.2⟩, h3⟩, below_step h4 hb⟩
theorem CL.any {w wr : World} {sb lb lo hi : Nat} {k asks fl : Int} {last last' : (Nat → Int × Int) → List Nat → Prop} (h : CL w wr sb lb k lo hi asks fl last) (hl : ∀ a b, last a b → last' a b) : CL w wr sb lb k lo hi asks fl last' := by
  obtain ⟨⟨own, mb, sv, seats, nw, od, D, ord, fv, kvs, kps, c, h1, h2, h3, h5, h6⟩, h4⟩ := h
  exact ⟨⟨own, mb, sv, seats, nw, od, D, ord, fv, kvs, kps, c, h1, h2, h3, h5, hl _ _ h6⟩, h4⟩
theorem CL.got {w w7 X w11 : World} {own : Nat → Prop} {sb lb mb lo hi : Nat} {k : Int} {seats s' : List Seat} {ord ord' : List Nat} {kvs' : List Kv} {kps kps' : List Kept} {c c' : Cnt} {sv' fv' : Value} {nw' od' : Int} {D' : DataW Unit} {N slot : Nat} {had out : Bool} {a b ver asks fl : Int} {s : List Seed} {Dst Drs dist dirs : List Int}
    (hX : Below w7.heap.size w7 X) (hBW : Below w.heap.size w w7) (hown : ∀ b, own b → w.heap.size ≤ b ∧ b < w7.heap.size ∧ (b < lo ∨ hi ≤ b)) (hhi : hi ≤ w7.heap.size) (hI : CountI c seats.length asks fl)
    (hm : ShelfM w11 (ownN own X.heap.size N) sb lb k sv' mb s' nw' od' D' ord' fv' kvs' kps' c') (hn : N ≤ w11.heap.size) (hl : kvs'.length = s'.length) (hc : Chg own X w11) (hg : GotS seats.length k (keyF seats) ord kps c a b ver s Dst Drs s'.length (keyF s') ord' kps' c' dist dirs slot had out) :
    CL w w11 sb lb k lo hi (asks + 1) fl (fun ks o => ∃ j r, o = j :: r ∧ ks j = (a, b)) ∧ ∀ x o, X.heap[x]? = some o → w7.heap.size ≤ x → ∀ w', Chg (fun y => y = x) w11 w' → CL w w' sb lb k lo hi (asks + 1) fl (fun ks o => ∃ j r, o = j :: r ∧ ks j = (a, b)) := by
  have hlt : ∀ x o, X.heap[x]? = some o → x < X.heap.size := fun x o h => blk_lt h
  obtain ⟨c1, ⟨r, hr⟩, c3, _⟩ := hg.counted hI
  have z2 := hX.size
  have z3 := hBW.size
  have z4 := hc.size
  have ho : ∀ b, ownN own X.heap.size N b → w.heap.size ≤ b ∧ b < w11.heap.size ∧ (b < lo ∨ hi ≤ b) := fun b hb => by
    rcases hb with hb | hb
    · have := hown b hb
      omega
    · omega
  have hch : Chg (fun b => w.heap.size ≤ b) w w11 := by
    have h1 := below_step hBW hX
    exact (Chg.of_below h1 (fun b => w.heap.size ≤ b)).then_ hc (fun b hb => .inl (hown b hb).1)
  refine ⟨⟨⟨_, _, _, _, _, _, _, _, _, _, _, _, hm, ho, c1, hl, ⟨slot, r, hr, c3⟩⟩, hch.below (fun k hk => hk) (Nat.le_refl _)⟩, fun x o hx hw w' hc' => ?_⟩
  have hxl := hlt x o hx
  refine ⟨⟨_, _, _, _, _, _, _, _, _, _, _, _, hm.chg hc' (fun b hb e => ?_), fun b hb => ⟨(ho b hb).1, Nat.lt_of_lt_of_le (ho b hb).2.1 hc'.size, (ho b hb).2.2⟩, c1, hl, ⟨slot, r, hr, c3⟩⟩, (hch.then_ hc' (fun b hb => .inl (show w.heap.size ≤ b by have e : b = x := hb; omega))).below (fun k hk => hk) (Nat.le_refl _)⟩
  have e' : b = x := e
  rcases hb with hb | hb
  · have := (hown b hb).2.1
    omega
  · omega
set_option maxRecDepth 100000 in
set_option maxHeartbeats 8000000 in
theorem shelfCounts_calls (a0 : Int) (A1 : Option Addr) (c1 : Nat) (l1 : List Int) (A2 : Option Addr) (c2 : Nat) (l2 : List Ask) (w : World) (hr1 : Kd.C (Kd.int .u8) w A1 l1.length l1) (hc1 : l1.length ≤ c1) (hr2 : Kd.C kAsk w A2 l2.length l2) (hc2 : l2.length ≤ c2) (h1 : l1.length ≤ 140737488355328) (hb1 : ∀ x ∈ l1, 0 ≤ x ∧ x ≤ 255) :
    Calls Try.prog 26 #[.int .i64 a0, .slice A1 l1.length c1, .slice A2 l2.length c2] w fun e w' => e = .returned (.bool true) ∧ Below w.heap.size w w' := by
  have HR1 := Aside0.mk hr1
  have HC1 := Aside0.mk hc1
  have HR2 := Aside0.mk hr2
  have HC2 := Aside0.mk hc2
  obtain ⟨k, hwk, hk1, hk5⟩ := within_rng a0 4 (by omega) (by omega) 1 (by omega)
  have HWK := Aside0.mk (show herdsmanref1_Within.f a0 1 5 = some k from hwk)
  have HK1 := Aside0.mk (And.intro hk1 hk5)
  obtain ⟨W, H, C, hMT, ht, hC⟩ := madeTile_some 4 4 l1 hb1 h1
  have hCL : C.length ≤ 256 := by
    have hm := mul_small ⟨ht.1, ht.2.1⟩ ⟨ht.2.2.1, ht.2.2.2.1⟩
    have := ht.2.2.2.2.1
    omega
  have HMT := Aside0.mk (hMT 2000 (by omega))
  have HTT := Aside0.mk ht
  have HCL := Aside0.mk (And.intro hCL hC)
  clear hr1 hc1 hr2 hc2 h1 hb1 hwk hk1 hk5 hMT ht hC hCL
  go_enter Try.func26, Try.ntmps26
  go_upto_region 6 with (first
    | (go_at_call 34; refine (herdsmanref1_Within.calls a0 1 5 k _ HWK.out).mono ?_; rintro e w0 ⟨rfl, hd⟩; have HB0 := Aside0.mk hd.below; clear hd)
    | (go_at_call 64; refine (newS_calls k HK1.out.1 _).mono ?_; rintro e w1 ⟨sb, lb, mb, rfl, hs, hb⟩; have HS1 := Aside0.mk hs; have HB1 := Aside0.mk hb; clear hs hb)
    | (go_at_call 37; refine (herdsmanref1_MadeTile.calls 2000 4 4 A1 c1 l1 W H C _ (Kd.C_below HR1.out (below_step HB0.out HB1.out)) HC1.out HMT.out).mono ?_; rintro e w2 ⟨v2, rfl, ho, hb⟩; obtain ⟨At, ct, rfl⟩ := Kd.R_slice ho; have HB2 := Aside0.mk hb; have HO2 := Aside0.mk ho; clear hb ho)
    | ((with_reducible refine gate_dst (N := 9) rfl ?_); refine box_event ?hg (N := 9) ?hd (cs := #[.int .i64 0, .int .i64 0, .slice none 0 0]) (t := 35) ?hr ?_; (case hd => rfl); (case hg => rfl); (case hr => first | (go_simp; done) | (go_simp; rfl)); intro gt hg w3 hbox hb; have z0 : w3.cell? ⟨gt, 0, none⟩ = _ := cell_blk hbox rfl; have f0 := free_blk hbox 0; have z1 : w3.cell? ⟨gt, 1, none⟩ = _ := cell_blk hbox rfl; have f1 := free_blk hbox 1; have z2 : w3.cell? ⟨gt, 2, none⟩ = _ := cell_blk hbox rfl; have f2 := free_blk hbox 2; have HX3 := Aside0.mk hbox; have HG3 : Aside0 (w2.heap.size ≤ gt) := ⟨by rw [hg]; exact Nat.le_refl _⟩; have HB3 := Aside0.mk hb; clear hb hbox hg))
  obtain ⟨w4, hw4⟩ : ∃ w4, w4 = (((w3.setCell ⟨gt, 0, none⟩ (.int .i64 W)).setCell ⟨gt, 1, none⟩ (.int .i64 H)).setCell ⟨gt, 2, none⟩ (.slice At C.length ct)) := ⟨_, rfl⟩
  rw [← hw4]
  have hX4 : w4.heap[gt]? = some (.cells #[.int .i64 W, .int .i64 H, .slice At C.length ct] 35 (0, 0)) := by rw [hw4]; exact set_blk (set_blk (set_blk HX3.out 0 _) 1 _) 2 _
  have hO4 : Kd.R (Kd.int .u8) 5 w4 w1.heap.size (fun _ => True) (.slice At C.length ct) C := by
    rw [hw4]
    have h3 := Kd.R_below HO2.out HB3.out
    exact R_set (R_set (R_set h3 HX3.out (by decide) 0 _) (set_blk HX3.out 0 _) (by decide) 1 _) (set_blk (set_blk HX3.out 0 _) 1 _) (by decide) 2 _
  have hB4 : Below w1.heap.size w1 w4 := by
    rw [hw4]
    have hg : w1.heap.size ≤ gt := Nat.le_trans HB2.out.size HG3.out
    exact ((((Chg.of_below (below_step HB2.out HB3.out) (fun k => w1.heap.size ≤ k)).set_ (p := ⟨gt, 0, none⟩) (.inl hg) _).set_ (p := ⟨gt, 1, none⟩) (.inl hg) _).set_ (p := ⟨gt, 2, none⟩) (.inl hg) _).below (fun k hk => hk) (Nat.le_refl _)
  have HGT : Aside0 (w1.heap.size ≤ gt ∧ gt < w4.heap.size) := ⟨⟨Nat.le_trans HB2.out.size HG3.out, blk_lt hX4⟩⟩
  have HT4 : Aside0 (Kd.R (Kd.int .u8) 5 w4 w1.heap.size (fun b => b < w4.heap.size) (.slice At C.length ct) C) := ⟨Kd.R_mono (Kd.R_bound hO4) (fun x hx => hx.2.2.1)⟩
  have hst : CL w w4 sb lb k w1.heap.size w4.heap.size 0 0 (fun _ _ => True) := by
    have hz := hB4.size
    refine ⟨⟨_, _, _, _, _, _, _, _, _, _, _, _, HS1.out.below hB4, fun b hb => ⟨Nat.le_trans HB0.out.size hb.1, ?_, .inl hb.2⟩, ⟨⟨rfl, rfl⟩, by unfold cnt0; simp, rfl, by unfold cnt0; simp, by unfold cnt0; simp⟩, rfl, trivial⟩, below_step (below_step HB0.out HB1.out) hB4⟩
    have h2 : b < w1.heap.size := hb.2
    omega
  have HST := Aside0.mk hst
  have HX4 := Aside0.mk hX4
  clear hst hX4 hO4 hB4 hw4 z0 z1 z2 f0 f1 f2 HX3 HG3 HB3 HB2 HO2 HS1 HB0 HB1
  go_wp2_with fail
  go_loopg [10, 11, 12] 40 (fun gg v10 v11 v12 wr => ∃ (i : Nat) (asks fl : Int), v10 = .int .u64 asks ∧ v11 = .int .u64 fl ∧ v12 = .int .i64 i ∧ i ≤ 40 ∧ 40 - i ≤ gg ∧ 0 ≤ asks ∧ asks ≤ i ∧ Aside0 (CL w wr sb lb k w1.heap.size w4.heap.size asks fl (fun _ _ => True)) ∧ Aside0 (wr.heap[gt]? = some (.cells #[.int .i64 W, .int .i64 H, .slice At C.length ct] 35 (0, 0))) ∧ Aside0 (Kd.R (Kd.int .u8) 5 wr w1.heap.size (fun b => b < w4.heap.size) (.slice At C.length ct) C) ∧ Aside0 (w4.heap.size ≤ wr.heap.size))
  case atStart => exact ⟨0, 0, 0, rfl, rfl, rfl, by omega, by omega, by omega, by omega, HST, HX4, HT4, ⟨Nat.le_refl _⟩⟩
  case round =>
    obtain ⟨i, asks, fl, rfl, rfl, rfl, hi, hgg, hask0, hask, HCLr, HXr, HTr, HZr⟩ := hrel
    by_cases hlt : i < l2.length ∧ i < 40
    · obtain ⟨hlt1, hlt2⟩ := hlt
      have d1 : (i : Int) < (l2.length : Int) := by omega
      have d2 : (i : Int) < 40 := by omega
      have hi0 : (0 : Int) ≤ (i : Int) := by omega
      obtain ⟨⟨own, mb', sv, seats, nw, od, D, ord, fv, kvs, kps, c, hM, hown, hCI, hkl, _⟩, hB⟩ := HCLr.out
      obtain ⟨ad, A4, c4, hA, y0, y1, y2, y3, y4, hl4, hC4⟩ := at_T72 (Kd.C_below HR2.out hB) (i : Int) (by omega) (by omega)
      rw [Int.toNat_natCast] at y0 y1 y2 y3 y4
      generalize rd_T72 l2 (i : Int) = q at *
      subst hA
      obtain ⟨kd, hwd, hd0, hd20⟩ := within_rng q.f0 20 (by omega) (by omega) 0 (by omega)
      obtain ⟨a, hwa, ha0, ha3⟩ := within_rng q.f1 5 (by omega) (by omega) 0 (by omega)
      obtain ⟨b, hwb, hb0, hb2⟩ := within_rng q.f2 2 (by omega) (by omega) 0 (by omega)
      have hol := hM.ordLen
      have hroom := hM.lru.room
      have HM0 := Aside0.mk hM
      have HOWN := Aside0.mk hown
      have HCI := Aside0.mk hCI
      have HKL := Aside0.mk hkl
      have HOL := Aside0.mk (And.intro hol hroom)
      have HBW := Aside0.mk hB
      have HWD := Aside0.mk (show herdsmanref1_Within.f q.f0 0 20 = some kd from hwd)
      have HWA := Aside0.mk (show herdsmanref1_Within.f q.f1 0 5 = some a from hwa)
      have HWB := Aside0.mk (show herdsmanref1_Within.f q.f2 0 2 = some b from hwb)
      have HAB : Aside0 (W64 a ∧ W64 b) := ⟨⟨by omega, by omega⟩, ⟨by omega, by omega⟩⟩
      have HC4 := Aside0.mk hC4
      have HL4 := Aside0.mk hl4
      have HI := Aside0.mk (And.intro hi (And.intro hgg (And.intro hlt2 (And.intro hask0 hask))))
      clear hM hown hCI hkl hB hwd hwa hwb hd0 hd20 ha0 ha3 hb0 hb2 hC4 hl4 hi hgg hol hroom hask0 hask
      go_upto_region 11 with ((with_reducible refine gate_dst (N := 13) rfl ?_); refine box_event ?hg (N := 13) ?hd (cs := #[.int .i64 0, .int .i64 0, .int .i64 0, .int .i64 0, .slice none 0 0]) (t := 72) ?hr ?_; (case hd => rfl); (case hg => rfl); (case hr => first | (go_simp; done) | (go_simp; rfl)); intro gq hg w2 hbox hb; have x0 : w2.cell? ⟨gq, 0, none⟩ = _ := cell_blk hbox rfl; have f0 := free_blk hbox 0; have x1 : w2.cell? ⟨gq, 1, none⟩ = _ := cell_blk hbox rfl; have f1 := free_blk hbox 1; have x2 : w2.cell? ⟨gq, 2, none⟩ = _ := cell_blk hbox rfl; have f2 := free_blk hbox 2; have x3 : w2.cell? ⟨gq, 3, none⟩ = _ := cell_blk hbox rfl; have f3 := free_blk hbox 3; have x4 : w2.cell? ⟨gq, 4, none⟩ = _ := cell_blk hbox rfl; have f4 := free_blk hbox 4; have HQ2 := Aside0.mk hbox; have HGQ : Aside0 (wr.heap.size ≤ gq) := ⟨by rw [hg]; exact Nat.le_refl _⟩; have HB2 := Aside0.mk hb; clear hb hbox hg)
      obtain ⟨w3, hw3⟩ : ∃ w3, w3 = (((((w2.setCell ⟨gq, 0, none⟩ (.int .i64 q.f0)).setCell ⟨gq, 1, none⟩ (.int .i64 q.f1)).setCell ⟨gq, 2, none⟩ (.int .i64 q.f2)).setCell ⟨gq, 3, none⟩ (.int .i64 q.f3)).setCell ⟨gq, 4, none⟩ (.slice A4 q.f4.length c4)) := ⟨_, rfl⟩
      rw [← hw3]
      have hB3 : Below wr.heap.size wr w3 := by
        rw [hw3]
        exact ((((((Chg.of_below HB2.out (fun b => wr.heap.size ≤ b)).set_ (p := ⟨gq, 0, none⟩) (.inl HGQ.out) _).set_ (p := ⟨gq, 1, none⟩) (.inl HGQ.out) _).set_ (p := ⟨gq, 2, none⟩) (.inl HGQ.out) _).set_ (p := ⟨gq, 3, none⟩) (.inl HGQ.out) _).set_ (p := ⟨gq, 4, none⟩) (.inl HGQ.out) _).below (fun k hk => hk) (Nat.le_refl _)
      have hQ3 : w3.heap[gq]? = some (.cells #[.int .i64 q.f0, .int .i64 q.f1, .int .i64 q.f2, .int .i64 q.f3, .slice A4 q.f4.length c4] 72 (0, 0)) := by rw [hw3]; exact set_blk (set_blk (set_blk (set_blk (set_blk HQ2.out 0 _) 1 _) 2 _) 3 _) 4 _
      have q0 := cell_blk (j := 0) (u := .int .i64 q.f0) hQ3 rfl
      have HQ3 := Aside0.mk hQ3
      have HB3 := Aside0.mk hB3
      clear hw3 hB3 hQ3 x0 x1 x2 x3 x4 f0 f1 f2 f3 f4 HQ2 HB2 y0 y1 y2 y3 y4
      by_cases hkd : kd = 20
      · subst hkd
        have hfl := HCI.out.pos.2.2.2.2
        have hbu := HCI.out.built
        have hst := HCI.out.stale
        have hsm := HCI.out.sum
        have hps := HCI.out.pos
        have hrm := HOL.out
        have hI := HI.out
        obtain ⟨nk, hnk⟩ : ∃ nk, nk = (ord.map (keyF seats)).length := ⟨_, rfl⟩
        have hnk2 : nk = seats.length := by rw [hnk, List.length_map]; exact hrm.1
        have hcv : IntKind.u64.wrap (nk : Int) = (nk : Int) := by rw [IntKind.wrap_u64]; omega
        have hcs : IntKind.u64.wrap (fl + (nk : Int)) = fl + (nk : Int) := by rw [IntKind.wrap_u64]; omega
        have HNK := Aside0.mk hnk
        have HNK2 := Aside0.mk hnk2
        clear hfl hbu hst hsm hps hrm hI hnk hnk2
        have HM3 := Aside0.mk (HM0.out.below HB3.out)
        go_wp2_with (first
          | (go_at_call 34; refine (herdsmanref1_Within.calls q.f0 0 20 20 _ HWD.out).mono ?_; rintro e w5 ⟨rfl, hd⟩; have HB5 := Aside0.mk (below_step HB3.out hd.below); have HM5 := Aside0.mk (HM3.out.below hd.below); clear hd)
          | (go_at_call 71; refine (keysS_calls HM5.out (by have h1 := HOL.out; have h2 := HK1.out; omega)).mono ?_; rintro e w6 ⟨v6, rfl, ho, hb⟩; obtain ⟨A6, n6, rfl⟩ := Kd.R_slice ho; rw [← HNK.out]; have HB6 := Aside0.mk (below_step HB5.out hb); have HM6 := Aside0.mk (HM5.out.below hb); clear ho hb HM5)
          | (go_at_call 68; refine (flushS_calls HM6.out).mono ?_; rintro e w7 ⟨rfl, mb7, hs, hc⟩; have HS7 := Aside0.mk hs; have HC7 := Aside0.mk hc; clear hs hc HM6)
          | (go_at_call 71; refine (keysS_calls HS7.out (by simp)).mono ?_; rintro e w8 ⟨v8, rfl, ho, hb⟩; obtain ⟨A8, n8, rfl⟩ := Kd.R_slice ho; have HB8 := Aside0.mk hb; clear ho hb))
        have hz6 := HB6.out.size
        have hzr := HZr.out
        have hgt := HGT.out
        have hX7 := HC7.out.blk (blk_step HXr.out HB6.out) (fun e => by have := HOWN.out _ e; omega)
        have hT7 := HC7.out.R (Kd.R_bound (Kd.R_below HTr.out HB6.out)) (fun x hx e => by have h1 := HOWN.out _ e; have h2 : x < w4.heap.size := hx.1; have h3 := hx.2.1; omega)
        have hCL : CL w w8 sb lb k w1.heap.size w4.heap.size asks (fl + (nk : Int)) (fun _ _ => True) := by
          refine ⟨⟨_, _, _, _, _, _, _, _, _, _, _, _, HS7.out.below HB8.out, fun b hb => ?_, by rw [HNK2.out]; exact HCI.out.flush, rfl, trivial⟩, ?_⟩
          · have h8 := HB8.out.size
            have h7 := HC7.out.size
            rcases hb with hb | hb
            · have := HOWN.out b hb
              omega
            · have h9 := HBW.out.size
              omega
          · have h1 := (Chg.of_below (below_step HBW.out HB6.out) (fun b => w.heap.size ≤ b)).then_ HC7.out (fun b hb => .inl (HOWN.out b hb).1)
            exact below_step (h1.below (fun k hk => hk) (Nat.le_refl _)) HB8.out
        have HCL8 := Aside0.mk hCL
        have HX8 := Aside0.mk (blk_step hX7 HB8.out)
        have HT8 : Aside0 (Kd.R (Kd.int .u8) 5 w8 w1.heap.size (fun b => b < w4.heap.size) (.slice At C.length ct) C) := ⟨Kd.R_mono (Kd.R_below hT7 HB8.out) (fun x hx => hx.1)⟩
        have HZ8 : Aside0 (w4.heap.size ≤ w8.heap.size) := ⟨by have := HC7.out.size; have := HB8.out.size; omega⟩
        clear hz6 hzr hgt hX7 hT7 hCL
        go_roundg (40 - (i + 1))
        case measure => have := HI.out; omega
        case rel => exact ⟨i + 1, asks, fl + (nk : Int), rfl, rfl, by first | rfl | (rw [w64 (n := (i : Int) + 1) (by omega) (by omega)]; rfl), by have := HI.out; omega, Nat.le_refl _, by have := HI.out; omega, by have := HI.out; omega, HCL8, HX8, HT8, HZ8⟩
      · have dk : (kd == 20) = false := by simp [hkd]
        have HM3 := Aside0.mk (HM0.out.below HB3.out)
        go_upto_region 16 with (go_at_call 34; refine (herdsmanref1_Within.calls q.f0 0 20 kd _ HWD.out).mono ?_; rintro e w5 ⟨rfl, hd⟩; have HB5 := Aside0.mk (below_step HB3.out hd.below); have HM5 := Aside0.mk (HM3.out.below hd.below); have HQ5 := Aside0.mk (blk_step HQ3.out hd.below); clear hd)
        go_upto_region 17 with (first
          | (go_at_call 67; refine (countS_calls HM5.out).mono ?_; rintro e w6 ⟨he, hb⟩; rw [show cntV c = .agg #[.int .u64 c.re, .int .u64 c.se, .int .u64 c.bu, .int .u64 c.hi, .int .u64 c.st, .int .u64 c.ev] from rfl] at he; subst he; have HB6 := Aside0.mk (below_step HB5.out hb); have HQ6 := Aside0.mk (blk_step HQ5.out hb); have HM6 := Aside0.mk (HM5.out.below hb); clear hb HM5)
          | ((with_reducible refine gate_dst (N := 14) rfl ?_); refine box_event ?hg (N := 14) ?hd (cs := #[.int .u64 0, .int .u64 0, .int .u64 0, .int .u64 0, .int .u64 0, .int .u64 0]) (t := 77) ?hr ?_; (case hd => rfl); (case hg => rfl); (case hr => first | (go_simp; done) | (go_simp; rfl)); intro gs hg w7 hbox hb; have z0 : w7.cell? ⟨gs, 0, none⟩ = _ := cell_blk hbox rfl; have f0 := free_blk hbox 0; have z1 : w7.cell? ⟨gs, 1, none⟩ = _ := cell_blk hbox rfl; have f1 := free_blk hbox 1; have z2 : w7.cell? ⟨gs, 2, none⟩ = _ := cell_blk hbox rfl; have f2 := free_blk hbox 2; have z3 : w7.cell? ⟨gs, 3, none⟩ = _ := cell_blk hbox rfl; have f3 := free_blk hbox 3; have z4 : w7.cell? ⟨gs, 4, none⟩ = _ := cell_blk hbox rfl; have f4 := free_blk hbox 4; have z5 : w7.cell? ⟨gs, 5, none⟩ = _ := cell_blk hbox rfl; have f5 := free_blk hbox 5; have HS7 := Aside0.mk hbox; have HG7 : Aside0 (w6.heap.size ≤ gs) := ⟨by rw [hg]; exact Nat.le_refl _⟩; have HB7 := Aside0.mk hb; clear hb hbox hg))
        obtain ⟨w8, hw8⟩ : ∃ w8, w8 = ((((((w7.setCell ⟨gs, 0, none⟩ (.int .u64 c.re)).setCell ⟨gs, 1, none⟩ (.int .u64 c.se)).setCell ⟨gs, 2, none⟩ (.int .u64 c.bu)).setCell ⟨gs, 3, none⟩ (.int .u64 c.hi)).setCell ⟨gs, 4, none⟩ (.int .u64 c.st)).setCell ⟨gs, 5, none⟩ (.int .u64 c.ev)) := ⟨_, rfl⟩
        rw [← hw8]
        have hB8 : Below w6.heap.size w6 w8 := by
          rw [hw8]
          exact (((((((Chg.of_below HB7.out (fun b => w6.heap.size ≤ b)).set_ (p := ⟨gs, 0, none⟩) (.inl HG7.out) _).set_ (p := ⟨gs, 1, none⟩) (.inl HG7.out) _).set_ (p := ⟨gs, 2, none⟩) (.inl HG7.out) _).set_ (p := ⟨gs, 3, none⟩) (.inl HG7.out) _).set_ (p := ⟨gs, 4, none⟩) (.inl HG7.out) _).set_ (p := ⟨gs, 5, none⟩) (.inl HG7.out) _).below (fun k hk => hk) (Nat.le_refl _)
        have hS8 : w8.heap[gs]? = some (.cells #[.int .u64 c.re, .int .u64 c.se, .int .u64 c.bu, .int .u64 c.hi, .int .u64 c.st, .int .u64 c.ev] 77 (0, 0)) := by rw [hw8]; exact set_blk (set_blk (set_blk (set_blk (set_blk (set_blk HS7.out 0 _) 1 _) 2 _) 3 _) 4 _) 5 _
        have HB8 : Aside0 (Below wr.heap.size wr w8) := ⟨below_step HB6.out hB8⟩
        have HS8 := Aside0.mk hS8
        have hQ8 := blk_step HQ6.out hB8
        have HQ8 := Aside0.mk hQ8
        have HM8 := Aside0.mk (HM6.out.below hB8)
        have HGS : Aside0 (wr.heap.size ≤ gs) := ⟨Nat.le_trans HB6.out.size HG7.out⟩
        have q1 := cell_blk (j := 1) (u := .int .i64 q.f1) hQ8 rfl
        have q2 := cell_blk (j := 2) (u := .int .i64 q.f2) hQ8 rfl
        clear hw8 hB8 hS8 hQ8 q0 HQ3 HQ5 HQ6 HM3 HM6 HB3 HB5 HB6 HB7 HG7 HS7 z0 z1 z2 z3 z4 z5 f0 f1 f2 f3 f4 f5
        go_quiet (first
          | (go_at_call_of 34 (q.f1); refine (herdsmanref1_Within.calls q.f1 0 5 a _ HWA.out).mono ?_; rintro e w' ⟨rfl, ⟨nd, rfl⟩⟩; exact ⟨rfl, _, World.drewN_drewN _ _ _⟩)
          | (go_at_call_of 34 (q.f2); refine (herdsmanref1_Within.calls q.f2 0 2 b _ HWB.out).mono ?_; rintro e w' ⟨rfl, ⟨nd, rfl⟩⟩; exact ⟨rfl, _, World.drewN_drewN _ _ _⟩))
        have hd9 : Below w8.heap.size w8 (w8.drewN nq) := pw_below_drewN (Below.refl _ _) nq
        have HB9 : Aside0 (Below wr.heap.size wr (w8.drewN nq)) := ⟨below_step HB8.out hd9⟩
        have hQ9 := blk_step HQ8.out hd9
        have HS9 := Aside0.mk (blk_step HS8.out hd9)
        have HM9 := Aside0.mk (HM8.out.below hd9)
        generalize w8.drewN nq = w9 at *
        have hX9 := blk_step HXr.out HB9.out
        have HX9 := Aside0.mk hX9
        have HQ9 := Aside0.mk hQ9
        have HT9 := Aside0.mk (Kd.R_below HTr.out HB9.out)
        have HR9 : Aside0 (Below w9.heap.size w9 w9) := ⟨Below.refl _ _⟩
        have HN9 : Aside0 (gt ≠ w9.heap.size ∧ gq ≠ w9.heap.size ∧ gs ≠ w9.heap.size ∧ gt < w9.heap.size ∧ gq < w9.heap.size ∧ gs < w9.heap.size ∧ wr.heap.size ≤ w9.heap.size ∧ w4.heap.size ≤ wr.heap.size ∧ wr.heap.size ≤ gq) := ⟨Nat.ne_of_lt (blk_lt hX9), Nat.ne_of_lt (blk_lt hQ9), Nat.ne_of_lt (blk_lt HS9.out), blk_lt hX9, blk_lt hQ9, blk_lt HS9.out, HB9.out.size, HZr.out, HGQ.out⟩
        have HNT9 : Aside0 (gt ≠ w9.heap.size) := ⟨HN9.out.1⟩
        have HNQ9 : Aside0 (gq ≠ w9.heap.size) := ⟨HN9.out.2.1⟩
        have HNS9 : Aside0 (gs ≠ w9.heap.size) := ⟨HN9.out.2.2.1⟩
        have t0 := cell_blk (j := 0) (u := .int .i64 W) hX9 rfl
        have t1 := cell_blk (j := 1) (u := .int .i64 H) hX9 rfl
        have t2 := cell_blk (j := 2) (u := .slice At C.length ct) hX9 rfl
        have t3 := cell_blk (j := 3) (u := .int .i64 q.f3) hQ9 rfl
        have t4 := cell_blk (j := 4) (u := .slice A4 q.f4.length c4) hQ9 rfl
        obtain ⟨lf, hlf⟩ : ∃ lf, lf = q.f4.take (min q.f4.length 2) := ⟨_, rfl⟩
        have hlen : lf.length = min q.f4.length 2 := by rw [hlf, List.length_take]; omega
        have hse := seeds_some HTT.out lf (by omega)
        obtain ⟨s, hs⟩ : ∃ s, s = seedsOf W H C lf := ⟨_, rfl⟩
        have hsok : SeedsOk W H C s := by rw [hs]; exact seedsOf_ok HTT.out lf
        have hsl4 : s.length ≤ 4 := by rw [hs]; exact Nat.le_trans (seedsOf_len W H C lf) (by omega)
        rw [← hs] at hse
        have HSE := Aside0.mk hse
        have HSO := Aside0.mk hsok
        have HS4 := Aside0.mk hsl4
        have HLF : Aside0 (∀ wx, Kd.C (Kd.int .i64) wx A4 q.f4.length q.f4 → Kd.C (Kd.int .i64) wx A4 lf.length lf) := ⟨fun wx h => by rw [hlf]; exact Kd.C_take h (by omega)⟩
        obtain ⟨ji, hji⟩ : ∃ j : Int, j = (lf.length : Int) := ⟨_, rfl⟩
        have hmin2 : (if (2 : Int) < (q.f4.length : Int) then (2 : Int) else (q.f4.length : Int)) = ji := by rw [hji]; split <;> omega
        obtain ⟨i05, hi05, _, _, _⟩ := info_parts info3
        have hcut1 := cut_to (P := Try.prog) 36 3 .i64 Try.underlying36 hi05 A4 q.f4.length c4 ji (by omega) (by omega) HL4.out
        rw [show ji.toNat = lf.length by omega] at hcut1
        have HFC : Aside0 (lf.length ≤ c4) := ⟨by have := HL4.out; omega⟩
        clear q1 q2 HB8 HS8 HQ8 HM8 hd9 hQ9 hX9 hlf hlen hse hs hsok hsl4 hji hi05
        go_upto_region 18 with fail
        go_cut [18] (fun v18 wc => v18 = .int .i64 0 ∧ Aside0 (CL w wc sb lb k w1.heap.size w4.heap.size (asks + 1) fl (fun ks o => ∃ j r, o = j :: r ∧ ks j = (a, b))) ∧ Aside0 (wc.heap[gt]? = some (.cells #[.int .i64 W, .int .i64 H, .slice At C.length ct] 35 (0, 0))) ∧ Aside0 (Kd.R (Kd.int .u8) 5 wc w1.heap.size (fun b => b < w4.heap.size) (.slice At C.length ct) C) ∧ Aside0 (wc.heap[gs]? = some (.cells #[.int .u64 c.re, .int .u64 c.se, .int .u64 c.bu, .int .u64 c.hi, .int .u64 c.st, .int .u64 c.ev] 77 (0, 0))) ∧ Aside0 (w4.heap.size ≤ wc.heap.size))
        case first =>
          go_region_held3 (fun w' => w'.cell? ⟨gt, 0, none⟩ = some (.int .i64 W) ∧ w'.cell? ⟨gt, 1, none⟩ = some (.int .i64 H) ∧ w'.cell? ⟨gt, 2, none⟩ = some (.slice At C.length ct) ∧ w'.cell? ⟨gq, 3, none⟩ = some (.int .i64 q.f3) ∧ w'.cell? ⟨gq, 4, none⟩ = some (.slice A4 q.f4.length c4))
            (first | exact ⟨t0, t1, t2, t3, t4⟩ | exact ⟨v0, v1, v2, v3, v4⟩ | exact ⟨u0, u1, u2, u3, u4⟩ | (refine ⟨pw_cell_below ?_ u0, pw_cell_below ?_ u1, pw_cell_below ?_ u2, pw_cell_below ?_ u3, pw_cell_below ?_ u4⟩ <;> exact below_alloc (Below.refl _ _) _) | exact ⟨(cfar HNT9.out _).trans ((cfar HNT9.out _).trans u0), (cfar HNT9.out _).trans ((cfar HNT9.out _).trans u1), (cfar HNT9.out _).trans ((cfar HNT9.out _).trans u2), (cfar HNQ9.out _).trans ((cfar HNQ9.out _).trans u3), (cfar HNQ9.out _).trans ((cfar HNQ9.out _).trans u4)⟩ | exact ⟨(cfar HNT10.out _).trans ((cfar HNT10.out _).trans u0), (cfar HNT10.out _).trans ((cfar HNT10.out _).trans u1), (cfar HNT10.out _).trans ((cfar HNT10.out _).trans u2), (cfar HNQ10.out _).trans ((cfar HNQ10.out _).trans u3), (cfar HNQ10.out _).trans ((cfar HNQ10.out _).trans u4)⟩ | (refine ⟨pw_cell_below ?_ v0, pw_cell_below ?_ v1, pw_cell_below ?_ v2, pw_cell_below ?_ v3, pw_cell_below ?_ v4⟩ <;> ((repeat (first | exact HR10.out | apply below_alloc | apply pw_below_drewN | apply below_drew1)); done)) | (refine ⟨pw_cell_below ?_ t0, pw_cell_below ?_ t1, pw_cell_below ?_ t2, pw_cell_below ?_ t3, pw_cell_below ?_ t4⟩ <;> ((repeat (first | exact HR9.out | apply below_alloc | apply pw_below_drewN | apply below_drew1)); done)) | go_keep)
            (first
              | (go_at_call 38; refine (herdsmanref7_Seeds.calls W H At ct C A4 c4 lf s _ (Kd.C_below (R_C HT9.out).1 (by (repeat (first | exact HR9.out | apply below_alloc | apply pw_below_drewN | apply below_drew1)))) (R_C HT9.out).2 (HLF.out _ (Kd.C_below HC4.out (below_step HB9.out (by (repeat (first | exact HR9.out | apply below_alloc | apply pw_below_drewN | apply below_drew1)))))) HFC.out HSE.out).mono ?_; rintro e w10 ⟨v10, rfl, ho, hb⟩; obtain ⟨As, cs, rfl⟩ := Kd.R_slice ho; have HB10 : Aside0 (Below w9.heap.size w9 w10) := ⟨below_step (by (repeat (first | exact HR9.out | apply below_alloc | apply pw_below_drewN | apply below_drew1))) hb⟩; have HR10 : Aside0 (Below w10.heap.size w10 w10) := ⟨Below.refl _ _⟩; have HO10 : Aside0 (Kd.R k25 25 w10 w9.heap.size (fun _ => True) (.slice As s.length cs) s) := ⟨Kd.R_lower ho (Below.size (B := w9.heap.size) (w := w9) (by (repeat (first | exact HR9.out | apply below_alloc | apply pw_below_drewN | apply below_drew1))))⟩; have HNT10 : Aside0 (gt ≠ w10.heap.size) := ⟨by have h1 := HN9.out; have h2 := HB10.out.size; omega⟩; have HNQ10 : Aside0 (gq ≠ w10.heap.size) := ⟨by have h1 := HN9.out; have h2 := HB10.out.size; omega⟩; have HNS10 : Aside0 (gs ≠ w10.heap.size) := ⟨by have h1 := HN9.out; have h2 := HB10.out.size; omega⟩; have v0 := pw_cell_below HB10.out t0; have v1 := pw_cell_below HB10.out t1; have v2 := pw_cell_below HB10.out t2; have v3 := pw_cell_below HB10.out t3; have v4 := pw_cell_below HB10.out t4; (try (have ya : w10.heap[w9.heap.size]? = some (Obj.cells #[.slice none 0 0, .slice none 0 0] 60 (0, 0)) := blk_step (by (first | (refine heapAtI _ _ _ ?_; (first | rfl | (simp only [World.size_alloc, World.size_drew, World.heap_drewN]; done) | (simp only [World.size_alloc, World.size_drew, World.heap_drewN]; omega))) | (refine blk_alloc (heapAtI _ _ _ ?_) _; (first | rfl | (simp only [World.size_alloc, World.size_drew, World.heap_drewN]; done) | (simp only [World.size_alloc, World.size_drew, World.heap_drewN]; omega))))) hb)); clear ho hb)
              | (go_at_call 65; refine (get_calls (HM9.out.below (by (repeat (first | exact HB10.out | apply below_alloc | apply pw_below_drewN | apply below_drew1)))) (fun b hb => Nat.lt_of_lt_of_le (show b < w9.heap.size by have h1 := HOWN.out b hb; have h2 := HN9.out; omega) (Below.size (B := w9.heap.size) (w := w9) (by (repeat (first | exact HB10.out | apply below_alloc | apply pw_below_drewN | apply below_drew1))))) HKL.out HAB.out.1 HAB.out.2 (by have h1 := HOL.out; have h2 := HK1.out; omega) (HCI.out.ok (by have h2 := HI.out; omega)) (Handed3.of_rows (Kd.R_below HT9.out (by (repeat (first | exact HB10.out | apply below_alloc | apply pw_below_drewN | apply below_drew1)))) (Kd.R_below HO10.out (by (repeat (first | exact HR10.out | apply below_alloc | apply pw_below_drewN | apply below_drew1)))) (fun b hb _ => ⟨fun h1 h2 => by have h3 := HOWN.out b hb; have h4 : b < w4.heap.size := h2; omega, fun h1 _ => by have h3 := HOWN.out b hb; have h4 := HN9.out; omega⟩) HCL.out.2 (by have h1 := HCL.out.1; have h2 := HS4.out; omega)) HSO.out).mono ?_; rintro e w11 ⟨d11, r11, Ad, cd, Ae, ce, rfl, sv11, s11, nw11, od11, D11, ord11, fv11, kvs11, kps11, c11, N11, sl11, had11, out11, hm, hn, hwn, hl, hc, hd, hr, hg⟩; obtain ⟨hrl, hre⟩ := CL.got (w7 := w9) (lo := w1.heap.size) (hi := w4.heap.size) (by (repeat (first | exact HB10.out | apply below_alloc | apply pw_below_drewN | apply below_drew1))) (below_step HBW.out HB9.out) (fun b hb => by have h1 := HOWN.out b hb; have h2 := HN9.out; omega) (by have h2 := HN9.out; omega) HCI.out hm hn hl hc hg; have HRL11 := Aside0.mk hrl; have hno : ∀ x, wr.heap.size ≤ x → ¬ own x := (fun x hx e => by have h1 := HOWN.out _ e; omega); have hnt : ¬ own gt := (fun e => by have h1 := HOWN.out _ e; have h2 := HGT.out; omega); have hx11 := hc.blk (blk_step HX9.out (by (repeat (first | exact HB10.out | apply below_alloc | apply pw_below_drewN | apply below_drew1)))) hnt; have hq11 := hc.blk (blk_step HQ9.out (by (repeat (first | exact HB10.out | apply below_alloc | apply pw_below_drewN | apply below_drew1)))) (hno _ HN9.out.2.2.2.2.2.2.2.2); have hs11 := hc.blk (blk_step HS9.out (by (repeat (first | exact HB10.out | apply below_alloc | apply pw_below_drewN | apply below_drew1)))) (hno _ HGS.out); have ht11 := hc.R (Kd.R_bound (Kd.R_below HT9.out (by (repeat (first | exact HB10.out | apply below_alloc | apply pw_below_drewN | apply below_drew1))))) (fun x hx e => by have h1 := HOWN.out _ e; have h2 : x < w4.heap.size := hx.1; have h3 := hx.2.1; omega); have HX11 := Aside0.mk hx11; have HS11 := Aside0.mk hs11; have HT11 : Aside0 (Kd.R (Kd.int .u8) 5 w11 w1.heap.size (fun b => b < w4.heap.size) (.slice At C.length ct) C) := ⟨Kd.R_mono ht11 (fun x hx => hx.1)⟩; have HZ11 : Aside0 (w9.heap.size ≤ w11.heap.size) := ⟨Nat.le_trans (Below.size (B := w9.heap.size) (w := w9) (by (repeat (first | exact HB10.out | apply below_alloc | apply pw_below_drewN | apply below_drew1)))) hc.size⟩; have u0 := cell_blk (j := 0) (u := .int .i64 W) hx11 rfl; have u1 := cell_blk (j := 1) (u := .int .i64 H) hx11 rfl; have u2 := cell_blk (j := 2) (u := .slice At C.length ct) hx11 rfl; have u3 := cell_blk (j := 3) (u := .int .i64 q.f3) hq11 rfl; have u4 := cell_blk (j := 4) (u := .slice A4 q.f4.length c4) hq11 rfl; (try (have yb0 : w11.heap[w9.heap.size]? = some (Obj.cells #[.slice none 0 0, .slice none 0 0] 60 (0, 0)) := hc.blk (by first | exact ya | exact blk_step ya (by (repeat (first | exact HR10.out | apply below_alloc | apply pw_below_drewN | apply below_drew1)))) (hno _ HN9.out.2.2.2.2.2.2.1); have yr0 := Aside0.mk (hre w9.heap.size (Obj.cells #[.slice none 0 0, .slice none 0 0] 60) (by first | exact ya | exact blk_step ya (by (repeat (first | exact HR10.out | apply below_alloc | apply pw_below_drewN | apply below_drew1)))) (Nat.le_refl _)); have yc0 := cell_blk (j := 0) (u := .slice none 0 0) yb0 rfl; have yd0 := cell_blk (j := 1) (u := .slice none 0 0) yb0 rfl; have ye0 := free_blk yb0 0; have yf0 := free_blk yb0 1)); (try (have yb1 : w11.heap[w10.heap.size]? = some (Obj.cells #[.slice none 0 0, .slice none 0 0] 60 (0, 0)) := hc.blk (by (first | (refine heapAtI _ _ _ ?_; (first | rfl | (simp only [World.size_alloc, World.size_drew, World.heap_drewN]; done) | (simp only [World.size_alloc, World.size_drew, World.heap_drewN]; omega))) | (refine blk_alloc (heapAtI _ _ _ ?_) _; (first | rfl | (simp only [World.size_alloc, World.size_drew, World.heap_drewN]; done) | (simp only [World.size_alloc, World.size_drew, World.heap_drewN]; omega))))) (hno _ (Nat.le_trans HN9.out.2.2.2.2.2.2.1 HB10.out.size)); have yr1 := Aside0.mk (hre w10.heap.size (Obj.cells #[.slice none 0 0, .slice none 0 0] 60) (by (first | (refine heapAtI _ _ _ ?_; (first | rfl | (simp only [World.size_alloc, World.size_drew, World.heap_drewN]; done) | (simp only [World.size_alloc, World.size_drew, World.heap_drewN]; omega))) | (refine blk_alloc (heapAtI _ _ _ ?_) _; (first | rfl | (simp only [World.size_alloc, World.size_drew, World.heap_drewN]; done) | (simp only [World.size_alloc, World.size_drew, World.heap_drewN]; omega))))) HB10.out.size); have yc1 := cell_blk (j := 0) (u := .slice none 0 0) yb1 rfl; have yd1 := cell_blk (j := 1) (u := .slice none 0 0) yb1 rfl; have ye1 := free_blk yb1 0; have yf1 := free_blk yb1 1)); clear hm hn hwn hl hc hd hr hg hrl hre hno hnt hx11 hq11 hs11 ht11))
          all_goals (try go_wp2_with fail)
          all_goals go_meet
          all_goals first
            | exact ⟨rfl, ⟨HRL11.out.step (below_alloc (Below.refl _ _) _)⟩, ⟨blk_step HX11.out (below_alloc (Below.refl _ _) _)⟩, ⟨Kd.R_alloc HT11.out _⟩, ⟨blk_step HS11.out (below_alloc (Below.refl _ _) _)⟩, ⟨Nat.le_trans (by have h := HN9.out; omega) (Nat.le_trans HZ11.out (Below.size (B := w11.heap.size) (below_alloc (Below.refl _ _) _)))⟩⟩
            | (have hcs : Chg (fun y => y = w9.heap.size) w11 ((w11.setCell ⟨w9.heap.size, 0, none⟩ (.slice Ad d11.length cd)).setCell ⟨w9.heap.size, 1, none⟩ (.slice Ae r11.length ce)) := ((Chg.refl (fun y => y = w9.heap.size) w11).set_ (p := ⟨w9.heap.size, 0, none⟩) (.inl rfl) _).set_ (p := ⟨w9.heap.size, 1, none⟩) (.inl rfl) _
               exact ⟨rfl, ⟨yr0.out _ hcs⟩, ⟨blk_far (blk_far HX11.out HNT9.out _) HNT9.out _⟩, ⟨hcs.R HT11.out (fun x hx e => by have h1 := HN9.out; have h2 : x < w4.heap.size := hx; have h3 : x = w9.heap.size := e; omega)⟩, ⟨blk_far (blk_far HS11.out HNS9.out _) HNS9.out _⟩, ⟨Nat.le_trans (by have h := HN9.out; omega) (Nat.le_trans HZ11.out hcs.size)⟩⟩)
            | (have hcs : Chg (fun y => y = w10.heap.size) w11 ((w11.setCell ⟨w10.heap.size, 0, none⟩ (.slice Ad d11.length cd)).setCell ⟨w10.heap.size, 1, none⟩ (.slice Ae r11.length ce)) := ((Chg.refl (fun y => y = w10.heap.size) w11).set_ (p := ⟨w10.heap.size, 0, none⟩) (.inl rfl) _).set_ (p := ⟨w10.heap.size, 1, none⟩) (.inl rfl) _
               exact ⟨rfl, ⟨yr1.out _ hcs⟩, ⟨blk_far (blk_far HX11.out HNT10.out _) HNT10.out _⟩, ⟨hcs.R HT11.out (fun x hx e => by have h1 := HN9.out; have h4 := HB10.out.size; have h2 : x < w4.heap.size := hx; have h3 : x = w10.heap.size := e; omega)⟩, ⟨blk_far (blk_far HS11.out HNS10.out _) HNS10.out _⟩, ⟨Nat.le_trans (by have h := HN9.out; omega) (Nat.le_trans HZ11.out hcs.size)⟩⟩)
            | (trace_state; fail)
        case rest =>
          obtain ⟨rfl, HCLc, HXc, HTc, HSc, HZc⟩ := hcut
          clear t0 t1 t2 t3 t4 hmin2 hcut1 HX9 HQ9 HT9 HM9 HR9 HN9 HNT9 HNQ9 HNS9 HLF HFC HSE HS4 HSO HS9 HB9
          obtain ⟨⟨own', mb2, sv', seats', nw', od', D', ord', fv', kvs', kps', c', hM', hown', hCI', hkl', ⟨jj, rr, hord, hkey⟩⟩, hB'⟩ := HCLc.out
          have ho1 := hM'.ordLen
          have hr1 := hM'.lru.room
          obtain ⟨⟨c1_, c2_⟩, c3_, c4_, c5_, c6_⟩ := hCI'
          obtain ⟨⟨o1_, o2_⟩, o3_, o4_, o5_, o6_⟩ := HCI.out
          have hI := HI.out
          have hk5 := HK1.out
          obtain ⟨nk, hnk⟩ : ∃ nk, nk = (ord'.map (keyF seats')).length := ⟨_, rfl⟩
          have hnk2 : nk = seats'.length := by rw [hnk, List.length_map]; exact ho1
          have hnk3 : 1 ≤ nk := by rw [hnk, hord]; simp
          have e0 : IntKind.u64.wrap (asks + 1) = asks + 1 := by rw [IntKind.wrap_u64]; omega
          have e1 : IntKind.u64.wrap (c'.hi + c'.bu) = asks + 1 := by rw [IntKind.wrap_u64]; omega
          have e2 : decide (c'.bu < c'.st) = false := decide_eq_false (by omega)
          have e3 : IntKind.u64.wrap (c.hi + c.bu) = asks := by rw [IntKind.wrap_u64]; omega
          have e4 : decide ((nk : Int) < 1) = false := decide_eq_false (by omega)
          have e5 : decide (k < (nk : Int)) = false := decide_eq_false (by omega)
          have e6 : IntKind.u64.wrap (c'.st + c'.ev) = c'.st + c'.ev := by rw [IntKind.wrap_u64]; omega
          have e7 : IntKind.u64.wrap (c'.st + c'.ev + fl) = c'.st + c'.ev + fl := by rw [IntKind.wrap_u64]; omega
          have e8 : IntKind.u64.wrap (nk : Int) = (nk : Int) := by rw [IntKind.wrap_u64]; omega
          have e9 : IntKind.u64.wrap (c'.st + c'.ev + fl + (nk : Int)) = c'.bu := by rw [IntKind.wrap_u64]; omega
          have e10 : (c'.re != 0) = false := by rw [c1_]; rfl
          have e11 : (c'.se != 0) = false := by rw [c2_]; rfl
          have HNK := Aside0.mk hnk
          have HXS : Aside0 (ord'.map (keyF seats') = (a, b) :: rr.map (keyF seats')) := ⟨by rw [hord, List.map_cons, hkey]⟩
          have HNL := Aside0.mk (show seats'.length ≤ 1000000 by omega)
          have HM1 := Aside0.mk hM'
          have HAS : Aside0 (0 ≤ asks + 1 ∧ asks + 1 ≤ ((i + 1 : Nat) : Int)) := ⟨by omega⟩
          clear hM' hown' c1_ c2_ c3_ c4_ c5_ c6_ o1_ o2_ o3_ o4_ o5_ o6_ hI hk5 ho1 hr1 hnk hnk2 hnk3 hord hkey hkl' hB'
          go_upto_region 23 with (first
            | (go_at_call 67; refine (countS_calls HM1.out).mono ?_; rintro e w12 ⟨he, hb⟩; rw [show cntV c' = .agg #[.int .u64 c'.re, .int .u64 c'.se, .int .u64 c'.bu, .int .u64 c'.hi, .int .u64 c'.st, .int .u64 c'.ev] from rfl] at he; subst he; have HB12 := Aside0.mk hb; clear hb)
            | ((with_reducible refine gate_dst (N := 19) rfl ?_); refine box_event ?hg (N := 19) ?hd (cs := #[.int .u64 0, .int .u64 0, .int .u64 0, .int .u64 0, .int .u64 0, .int .u64 0]) (t := 77) ?hr ?_; (case hd => rfl); (case hg => rfl); (case hr => first | (go_simp; done) | (go_simp; rfl)); intro gx hg w13 hbox hb; have z0 : w13.cell? ⟨gx, 0, none⟩ = _ := cell_blk hbox rfl; have f0 := free_blk hbox 0; have z1 : w13.cell? ⟨gx, 1, none⟩ = _ := cell_blk hbox rfl; have f1 := free_blk hbox 1; have z2 : w13.cell? ⟨gx, 2, none⟩ = _ := cell_blk hbox rfl; have f2 := free_blk hbox 2; have z3 : w13.cell? ⟨gx, 3, none⟩ = _ := cell_blk hbox rfl; have f3 := free_blk hbox 3; have z4 : w13.cell? ⟨gx, 4, none⟩ = _ := cell_blk hbox rfl; have f4 := free_blk hbox 4; have z5 : w13.cell? ⟨gx, 5, none⟩ = _ := cell_blk hbox rfl; have f5 := free_blk hbox 5; have HS13 := Aside0.mk hbox; have HG13 : Aside0 (w12.heap.size ≤ gx) := ⟨by rw [hg]; exact Nat.le_refl _⟩; have HB13 := Aside0.mk hb; clear hb hbox hg))
          obtain ⟨w14, hw14⟩ : ∃ w14, w14 = ((((((w13.setCell ⟨gx, 0, none⟩ (.int .u64 c'.re)).setCell ⟨gx, 1, none⟩ (.int .u64 c'.se)).setCell ⟨gx, 2, none⟩ (.int .u64 c'.bu)).setCell ⟨gx, 3, none⟩ (.int .u64 c'.hi)).setCell ⟨gx, 4, none⟩ (.int .u64 c'.st)).setCell ⟨gx, 5, none⟩ (.int .u64 c'.ev)) := ⟨_, rfl⟩
          rw [← hw14]
          have hB14 : Below w12.heap.size w12 w14 := by
            rw [hw14]
            exact (((((((Chg.of_below HB13.out (fun b => w12.heap.size ≤ b)).set_ (p := ⟨gx, 0, none⟩) (.inl HG13.out) _).set_ (p := ⟨gx, 1, none⟩) (.inl HG13.out) _).set_ (p := ⟨gx, 2, none⟩) (.inl HG13.out) _).set_ (p := ⟨gx, 3, none⟩) (.inl HG13.out) _).set_ (p := ⟨gx, 4, none⟩) (.inl HG13.out) _).set_ (p := ⟨gx, 5, none⟩) (.inl HG13.out) _).below (fun k hk => hk) (Nat.le_refl _)
          have hX14 : w14.heap[gx]? = some (.cells #[.int .u64 c'.re, .int .u64 c'.se, .int .u64 c'.bu, .int .u64 c'.hi, .int .u64 c'.st, .int .u64 c'.ev] 77 (0, 0)) := by rw [hw14]; exact set_blk (set_blk (set_blk (set_blk (set_blk (set_blk HS13.out 0 _) 1 _) 2 _) 3 _) 4 _) 5 _
          have HB14 : Aside0 (Below wc.heap.size wc w14) := ⟨below_step HB12.out hB14⟩
          have HX14 := Aside0.mk hX14
          have HM14 := Aside0.mk (HM1.out.below HB14.out)
          clear hw14 hB14 hX14 z0 z1 z2 z3 z4 z5 f0 f1 f2 f3 f4 f5 HS13 HB13 HG13 HB12
          go_upto_region 24 with (go_at_call 71; refine (keysS_calls HM14.out HNL.out).mono ?_; rintro e w15 ⟨v15, rfl, ho, hb⟩; obtain ⟨A15, n15, rfl⟩ := Kd.R_slice ho; rw [← HNK.out]; have HK15 := Aside0.mk ho; have HB15 := Aside0.mk hb; clear ho hb)
          obtain ⟨gk15, hA15, k0, k1⟩ := key0 HK15.out HXS.out
          subst hA15
          have hnk3 : 0 < nk := by rw [HNK.out, HXS.out]; simp
          have hnk4 : (0 : Int) < (nk : Int) := by omega
          have hX15 := blk_step HX14.out HB15.out
          have hS15 := blk_step (blk_step HSc.out HB14.out) HB15.out
          have x0 := cell_blk (j := 0) (u := .int .u64 c'.re) hX15 rfl
          have x1 := cell_blk (j := 1) (u := .int .u64 c'.se) hX15 rfl
          have x2 := cell_blk (j := 2) (u := .int .u64 c'.bu) hX15 rfl
          have x3 := cell_blk (j := 3) (u := .int .u64 c'.hi) hX15 rfl
          have x4 := cell_blk (j := 4) (u := .int .u64 c'.st) hX15 rfl
          have x5 := cell_blk (j := 5) (u := .int .u64 c'.ev) hX15 rfl
          have s2 := cell_blk (j := 2) (u := .int .u64 c.bu) hS15 rfl
          have s3 := cell_blk (j := 3) (u := .int .u64 c.hi) hS15 rfl
          have HBe : Aside0 (Below wc.heap.size wc w15) := ⟨below_step HB14.out HB15.out⟩
          have HCLe := Aside0.mk ((HCLc.out.any (last' := fun _ _ => True) (fun _ _ _ => trivial)).step HBe.out)
          have HXe := Aside0.mk (blk_step HXc.out HBe.out)
          have HTe := Aside0.mk (Kd.R_below HTc.out HBe.out)
          have HZe : Aside0 (w4.heap.size ≤ w15.heap.size) := ⟨Nat.le_trans HZc.out HBe.out.size⟩
          clear hX15 hS15
          go_wp2_with fail
          go_roundg (40 - (i + 1))
          case measure => have := HI.out; omega
          case rel => exact ⟨i + 1, asks + 1, fl, rfl, rfl, by first | rfl | (rw [w64 (n := (i : Int) + 1) (by omega) (by omega)]; rfl), by have := HI.out; omega, Nat.le_refl _, HAS.out.1, HAS.out.2, HCLe, HXe, HTe, HZe⟩
    · have fin : ∀ (P : Prop), (i < l2.length → ¬ i < 40 → P) → (¬ i < l2.length → P) → P := fun P h1 h2 => if h : i < l2.length then h1 h (fun h3 => hlt ⟨h, h3⟩) else h2 h
      refine fin _ (fun ha hb => ?_) (fun ha => ?_)
      case' refine_1 =>
        have d1 : (i : Int) < (l2.length : Int) := by omega
        have d2 : ¬ (i : Int) < 40 := by omega
        have d3 : decide ((i : Int) < 40) = false := decide_eq_false d2
      case' refine_2 =>
        have d1 : ¬ (i : Int) < (l2.length : Int) := by omega
        have d3 : decide ((i : Int) < (l2.length : Int)) = false := decide_eq_false d1
      all_goals
        clear fin
        go_wp2_with (go_at_call 66; refine (told19_calls _).mono ?_; rintro e w21 ⟨rfl, hb⟩; have HB21 := Aside0.mk hb; clear hb)
        go_ret
        exact ⟨rfl, below_step HCLr.out.below HB21.out⟩
/-- As the row's form wants it. -/
noncomputable def shelfCountsH.f (n : Nat) (a0 : Int) (l1 : List Int) (l2 : List Ask) : Option Bool := open Classical in if l1.length ≤ 140737488355328 ∧ ∀ x ∈ l1, 0 ≤ x ∧ x ≤ 255 then some true else none
theorem shelfCountsH.calls (n : Nat) (a0 : Int) (A1 : Option Addr) (c1 : Nat) (l1 : List Int) (A2 : Option Addr) (c2 : Nat) (l2 : List Ask) (r : Bool) (w : World) (hr1 : Kd.C (Kd.int .u8) w A1 l1.length l1) (hc1 : l1.length ≤ c1) (hr2 : Kd.C kAsk w A2 l2.length l2) (hc2 : l2.length ≤ c2) (h : shelfCountsH.f n a0 l1 l2 = some r) :
    Calls Try.prog 26 #[.int .i64 a0, .slice A1 l1.length c1, .slice A2 l2.length c2] w fun e w' => e = .returned (.bool r) ∧ Below w.heap.size w w' := by
  unfold shelfCountsH.f at h
  split at h
  · rename_i hb
    obtain rfl := Option.some.inj h
    exact shelfCounts_calls a0 A1 c1 l1 A2 c2 l2 w hr1 hc1 hr2 hc2 hb.1 hb.2
  · exact absurd h (by simp)
end Go.Proofs.Ytgcfcemgeppkmaa.P
