/-
  herdsmanlaw19.ShelfOwn: what was handed in, or was answered, may be changed by who has it.
-/
import Derived.Test.YtgcfcemgeppkmaaXShelfTold
import Derived.Test.YtgcfcemgeppkmaaXNear
import Derived.Test.YtgcfcemgeppkmaaPx28
namespace Go.Proofs.Ytgcfcemgeppkmaa.P
open Go.RowKit Go.Proofs.YtgcfcemgeppkmaaW.PrintWords Go.Proofs.YtgcfcemgeppkmaaW.PrintLast Go.Proofs.YtgcfcemgeppkmaaW.PrintMore
open Go.Proofs.Ytgcfcemgeppkmaa.Dist
set_option linter.unusedVariables false
set_option linter.unusedSimpArgs false
attribute [local go_sem high] eqStats
attribute [local go_sem] max2_int min2_int max_two min_two max_three min_three max_four min_four
theorem sameField_o (a b : List Int) (ha : a.length ≤ 100000) (hb : b.length ≤ 100000) (k : Nat) (hk : a.length + b.length + 10 < k) : herdsmanref7_SameField.f k a b a b = some true := by
  unfold herdsmanref7_SameField.f
  rw [ints_self _ (by omega) k (by omega), Option.bind_some, if_pos rfl, ints_self _ (by omega) k (by omega), Option.bind_some]
theorem rowBlk {w : World} {base n : Nat} {ok : Nat → Prop} {ad : Addr} {l : List Int} (h : Kd.R (Kd.int .i64) 3 w base ok (.slice (some ad) l.length n) l) : ∃ (g : Nat) (cs : Array Value), ad = ⟨g, 0, none⟩ ∧ base ≤ g ∧ w.heap[g]? = some (.cells cs 3 (0, 0)) ∧ l.length ≤ cs.size := by
  obtain ⟨inner, ho⟩ := Kd.R_own h
  rcases ho.2 with ⟨e, _⟩ | ⟨g, cap, cur, e, hb, hh, hl, _, hc, _⟩
  · cases e
  · injection e with e _ _
    injection e with e
    refine ⟨g, cur, e, hb, hh, ?_⟩
    have : (Kd.int .i64).sz = 1 := rfl
    rw [this] at hc
    omega
theorem rowBlkS {w : World} {base n : Nat} {ok : Nat → Prop} {ad : Addr} {l : List Seed} (h : RowS w base ok (.slice (some ad) l.length n) l) : ∃ (g : Nat) (cs : Array Value), ad = ⟨g, 0, none⟩ ∧ base ≤ g ∧ w.heap[g]? = some (.cells cs 25 (0, 0)) ∧ ∀ j, j < l.length → ∃ x, cs[j * 3 + 2]? = some (.int .i64 x) := by
  obtain ⟨inner, ho⟩ := Kd.R_own h
  rcases ho.2 with ⟨e, _⟩ | ⟨g, cap, cur, e, hb, hh, _⟩
  · cases e
  · injection e with e _ _
    injection e with e
    subst e
    refine ⟨g, cur, rfl, hb, hh, fun j hj => ?_⟩
    obtain ⟨ad, e, _, _, h2⟩ := at_T25 (R_C h).1 (j : Int) (by omega) (by omega)
    injection e with e
    subst e
    rw [Int.toNat_natCast, add_plain, blk_cell hh] at h2
    exact ⟨_, h2⟩
/-- A block of numbers. -/
def IntBlk (w : World) (g n : Nat) : Prop := ∃ cs : Array Value, w.heap[g]? = some (.cells cs 3 (0, 0)) ∧ n ≤ cs.size
theorem IntBlk.set {w : World} {g n b i : Nat} {u : Value} (h : IntBlk w g n) : IntBlk (w.setCell ⟨b, i, none⟩ u) g n := by
  obtain ⟨cs, h1, h2⟩ := h
  by_cases e : g = b
  · subst e
    exact ⟨_, set_blk h1 i u, by simp only [Array.size_setIfInBounds]; exact h2⟩
  · exact ⟨_, blk_far h1 e u, h2⟩
def SeedBlk (w : World) (As : Option Addr) (n : Nat) : Prop := n = 0 ∨ ∃ (g : Nat) (cs : Array Value), As = some ⟨g, 0, none⟩ ∧ w.heap[g]? = some (.cells cs 25 (0, 0)) ∧ ∀ j, j < n → ∃ x, cs[j * 3 + 2]? = some (.int .i64 x)
theorem SeedBlk.of_row {w : World} {base n : Nat} {ok : Nat → Prop} {As : Option Addr} {l : List Seed} (h : RowS w base ok (.slice As l.length n) l) : SeedBlk w As l.length := by
  cases As with
  | none => exact .inl (by rw [C_none (R_C h).1]; rfl)
  | some ad =>
    obtain ⟨g, cs, rfl, _, hh, hc⟩ := rowBlkS h
    exact .inr ⟨g, cs, rfl, hh, hc⟩
theorem SeedBlk.set {w : World} {As : Option Addr} {n g i : Nat} {x : Int} (h : SeedBlk w As n) (e : As = some ⟨g, 0, none⟩) : SeedBlk (w.setCell ⟨g, i * 3 + 2, none⟩ (.int .i64 x)) As n := by
  rcases h with h | ⟨g', cs, e', hh, hc⟩
  · exact .inl h
  · rw [e] at e'
    injection e' with e'
    injection e' with e' _ _
    subst e'
    refine .inr ⟨g, _, e, set_blk hh _ _, fun j hj => ?_⟩
    by_cases ej : j = i
    · subst ej
      obtain ⟨y, hy⟩ := hc j hj
      have := (Array.getElem?_eq_some_iff.1 hy).1
      exact ⟨x, by simp [Array.getElem?_setIfInBounds, this]⟩
    · obtain ⟨y, hy⟩ := hc j hj
      exact ⟨y, by rw [Array.getElem?_setIfInBounds_ne (by omega)]; exact hy⟩
theorem SeedBlk.chg {w w' : World} {S : Nat → Prop} {As : Option Addr} {n : Nat} (h : SeedBlk w As n) (hc : Chg S w w') (hn : ∀ g, As = some ⟨g, 0, none⟩ → ¬ S g) : SeedBlk w' As n := by
  rcases h with h | ⟨g, cs, e, hh, hx⟩
  · exact .inl h
  · exact .inr ⟨g, cs, e, hc.blk hh (hn g e), hx⟩
theorem IntBlk.drew {w : World} {g n : Nat} (h : IntBlk w g n) : IntBlk w.drew g n := h
theorem IntBlk.cell {w : World} {g n i : Nat} (h : IntBlk w g n) (hi : i < n) : ∃ u, w.cell? ⟨g, i, none⟩ = some u ∧ w.frozen? ⟨g, i, none⟩ = false := by
  obtain ⟨cs, h1, h2⟩ := h
  exact ⟨_, cell_blk h1 (Array.getElem?_eq_getElem (by omega)), free_blk h1 i⟩
theorem heapAtI (w : World) (o : Obj) (k : Nat) (h : k = w.heap.size) : (w.alloc o).heap[k]? = some o := by
  subst h
  exact heap_alloc_new w o
theorem box2_kept {W w1 : World} {g : Nat} {cs : Array Value} (h0 : W.heap[g]? = some (.cells #[] 3 (0, 0))) (hg : W.grownBy w1 (Value.slice (some ⟨g, 0, none⟩) 0 0).ownBlock) (b : Nat) (hb : W.heap[b]? = some (.cells cs 60 (0, 0))) : w1.heap[b]? = some (.cells cs 60 (0, 0)) :=
  (hg.block b (blk_lt hb) (fun e => by
    have e' : b = g := by simpa [Value.ownBlock] using e
    subst e'
    rw [hb] at h0
    injection h0 with h0
    injection h0 with _ h0 _
    exact absurd h0 (by decide))).trans hb
theorem own_or {v1 : Value} {g n : Nat} (h : v1.ownBlock = (Value.slice (some ⟨g, 0, none⟩) 0 0).ownBlock ∨ ∃ b, v1.ownBlock = some b ∧ n ≤ b) (k : Nat) (hk : v1.ownBlock = some k) : k = g ∨ n ≤ k := by
  rcases h with h | ⟨b, h, hle⟩
  · rw [h] at hk
    exact .inl (by simpa [Value.ownBlock] using hk.symm)
  · rw [h] at hk
    injection hk with hk
    exact .inr (by omega)
theorem kept_ne {W w1 : World} {g : Nat} (hg : W.grownBy w1 (Value.slice (some ⟨g, 0, none⟩) 0 0).ownBlock) (b : Nat) (hne : b ≠ g) {o : Obj} (hb : W.heap[b]? = some o) : w1.heap[b]? = some o :=
  (hg.block b (by
    rcases Nat.lt_or_ge b W.heap.size with h | h
    · exact h
    · rw [Array.getElem?_eq_none h] at hb
      cases hb) (fun e => hne (by simpa [Value.ownBlock] using e))).trans hb
theorem C_moved {w w1 : World} {base : Nat} {ok : Nat → Prop} {A : Option Addr} {n : Nat} {xs : List Int} {g : Nat} (h : Kd.R (Kd.int .i64) 3 w base ok (.slice A xs.length n) xs) (hg : w.grownBy w1 (Value.slice (some ⟨g, 0, none⟩) 0 0).ownBlock) (hne : ∀ k, (Value.slice A xs.length n).ownBlock = some k → k ≠ g) : Kd.R (Kd.int .i64) 3 w1 base (fun _ => True) (.slice A xs.length n) xs := by
  have h2 : Kd.R (Kd.int .i64) 3 w base (fun k => (Value.slice A xs.length n).ownBlock = some k) (.slice A xs.length n) xs := by
    obtain ⟨h0, inner, ho, hr⟩ := h
    exact ⟨fun k hk => hk, inner, ho, hr.imp_ (fun _ _ hp => hp)⟩
  exact Kd.R_mono (Kd.R_grown h2 hg (fun k hk e => hne k hk (by simpa [Value.ownBlock] using e))) (fun _ _ => trivial)
theorem box_end {w10 w51 : World} {b n47 n51 : Nat} {A47 A51 : Option Addr} {l1 l2 : List Int} (h47 : RowI w51 w10.heap.size (fun _ => True) (.slice A47 l1.length n47) l1) (h51 : RowI w51 w10.heap.size (fun _ => True) (.slice A51 l2.length n51) l2) (hB : Below w10.heap.size w10 w51) (hb : w10.heap.size ≤ b) (hy : w51.heap[b]? = some (.cells #[.slice none 0 0, .slice none 0 0] 60 (0, 0))) :
    (∃ (gw : Nat) (Aw : Option Addr) (nw_ : Nat) (Ax : Option Addr) (nx : Nat), Value.pointer (some ⟨b, 0, none⟩) = .pointer (some ⟨gw, 0, none⟩) ∧ Aside0 (w10.heap.size ≤ gw) ∧ Aside0 (((w51.setCell ⟨b, 0, none⟩ (.slice A47 l1.length n47)).setCell ⟨b, 1, none⟩ (.slice A51 l2.length n51)).heap[gw]? = some (.cells #[.slice Aw l1.length nw_, .slice Ax l2.length nx] 60 (0, 0))) ∧ Aside0 (RowI ((w51.setCell ⟨b, 0, none⟩ (.slice A47 l1.length n47)).setCell ⟨b, 1, none⟩ (.slice A51 l2.length n51)) w10.heap.size (fun _ => True) (.slice Aw l1.length nw_) l1) ∧ Aside0 (RowI ((w51.setCell ⟨b, 0, none⟩ (.slice A47 l1.length n47)).setCell ⟨b, 1, none⟩ (.slice A51 l2.length n51)) w10.heap.size (fun _ => True) (.slice Ax l2.length nx) l2) ∧ Aside0 (Below w10.heap.size w10 ((w51.setCell ⟨b, 0, none⟩ (.slice A47 l1.length n47)).setCell ⟨b, 1, none⟩ (.slice A51 l2.length n51)))) :=
  ⟨b, A47, n47, A51, n51, rfl, ⟨hb⟩, ⟨set_blk (set_blk hy 0 _) 1 _⟩, ⟨R_set (R_set h47 hy (by decide) 0 _) (set_blk hy 0 _) (by decide) 1 _⟩, ⟨R_set (R_set h51 hy (by decide) 0 _) (set_blk hy 0 _) (by decide) 1 _⟩,
    ⟨(((Chg.of_below hB (fun k => w10.heap.size ≤ k)).set_ (p := ⟨b, 0, none⟩) (.inl hb) _).set_ (p := ⟨b, 1, none⟩) (.inl hb) _).below (fun k hk => hk) (Nat.le_refl _)⟩⟩
theorem box_late {w10 w51 : World} {n47 n51 : Nat} {A47 A51 : Option Addr} {l1 l2 : List Int} (h47 : RowI w51 w10.heap.size (fun _ => True) (.slice A47 l1.length n47) l1) (h51 : RowI w51 w10.heap.size (fun _ => True) (.slice A51 l2.length n51) l2) (hB : Below w10.heap.size w10 w51) :
    (∃ (gw : Nat) (Aw : Option Addr) (nw_ : Nat) (Ax : Option Addr) (nx : Nat), Value.pointer (some ⟨w51.heap.size, 0, none⟩) = .pointer (some ⟨gw, 0, none⟩) ∧ Aside0 (w10.heap.size ≤ gw) ∧ Aside0 ((w51.alloc (.cells #[.slice A47 l1.length n47, .slice A51 l2.length n51] 60)).heap[gw]? = some (.cells #[.slice Aw l1.length nw_, .slice Ax l2.length nx] 60 (0, 0))) ∧ Aside0 (RowI (w51.alloc (.cells #[.slice A47 l1.length n47, .slice A51 l2.length n51] 60)) w10.heap.size (fun _ => True) (.slice Aw l1.length nw_) l1) ∧ Aside0 (RowI (w51.alloc (.cells #[.slice A47 l1.length n47, .slice A51 l2.length n51] 60)) w10.heap.size (fun _ => True) (.slice Ax l2.length nx) l2) ∧ Aside0 (Below w10.heap.size w10 (w51.alloc (.cells #[.slice A47 l1.length n47, .slice A51 l2.length n51] 60)))) :=
  ⟨_, A47, n47, A51, n51, rfl, ⟨hB.size⟩, ⟨heapAtI _ _ _ rfl⟩, ⟨Kd.R_alloc h47 _⟩, ⟨Kd.R_alloc h51 _⟩, ⟨below_alloc hB _⟩⟩
theorem R_boxI {W : World} {g base : Nat} (hb : W.heap[g]? = some (.cells #[] 3 (0, 0))) (hg : base ≤ g) : Kd.R (Kd.int .i64) 3 W base (fun _ => True) (.slice (some ⟨g, 0, none⟩) 0 0) [] :=
  Kd.R_of_own (enc := Value.int .i64) (h1 := fun _ => rfl) ⟨rfl, .inr ⟨g, 0, #[], rfl, hg, hb, Nat.le_refl _, Nat.zero_le _, rfl, rfl⟩⟩ (fun _ _ => trivial)
set_option maxRecDepth 100000 in
set_option maxHeartbeats 8000000 in
theorem shelfOwn_calls (a0 a1 : Int) (A2 : Option Addr) (c2 : Nat) (l2 : List Int) (A3 : Option Addr) (c3 : Nat) (l3 : List Int) (w : World) (hr2 : Kd.C (Kd.int .u8) w A2 l2.length l2) (hc2 : l2.length ≤ c2) (hr3 : Kd.C (Kd.int .i64) w A3 l3.length l3) (hc3 : l3.length ≤ c3) (h2 : l2.length ≤ 140737488355328) (hb2 : ∀ x ∈ l2, 0 ≤ x ∧ x ≤ 255) :
    Calls Try.prog 24 #[.int .i64 a0, .int .i64 a1, .slice A2 l2.length c2, .slice A3 l3.length c3] w fun e w' => e = .returned (.bool true) ∧ Below w.heap.size w w' := by
  have HR2 := Aside0.mk hr2
  have HC2 := Aside0.mk hc2
  have HR3 := Aside0.mk hr3
  have HC3 := Aside0.mk hc3
  obtain ⟨W, H, C, hM, ht, hC⟩ := madeTile_some a0 a1 l2 hb2 (by omega)
  have HMT := Aside0.mk (hM 2000 (by omega))
  have HTT := Aside0.mk ht
  have HBY := Aside0.mk hC
  have hm := mul_small ⟨ht.1, ht.2.1⟩ ⟨ht.2.2.1, ht.2.2.2.1⟩
  have HCL : Aside0 (C.length ≤ 256) := ⟨by have := ht.2.2.2.2.1; omega⟩
  clear hr2 hc2 hr3 hM ht hC hm h2 hb2
  go_enter Try.func24, Try.ntmps24
  go_upto_region 5 with (first
    | (go_at_call 64; refine (newS_calls 2 (by omega) w).mono ?_; rintro e w1 ⟨sb, lb, mb, rfl, hs, hb⟩; have HS1 := Aside0.mk hs; have HB1 := Aside0.mk hb; clear hs hb)
    | (go_at_call 37; refine (herdsmanref1_MadeTile.calls 2000 a0 a1 A2 c2 l2 W H C _ (Kd.C_below HR2.out HB1.out) HC2.out HMT.out).mono ?_; rintro e w2 ⟨v2, rfl, ho, hb⟩; obtain ⟨At, ct, rfl⟩ := Kd.R_slice ho; have HB2 := Aside0.mk hb; have HO2 := Aside0.mk ho; clear hb ho)
    | ((with_reducible refine gate_dst (N := 10) rfl ?_); refine box_event ?hg (N := 10) ?hd (cs := #[.int .i64 0, .int .i64 0, .slice none 0 0]) (t := 35) ?hr ?_; (case hd => rfl); (case hg => rfl); (case hr => first | (go_simp; done) | (go_simp; rfl)); intro gt hg w3 hbox hb; have z0 : w3.cell? ⟨gt, 0, none⟩ = _ := cell_blk hbox rfl; have z1 : w3.cell? ⟨gt, 1, none⟩ = _ := cell_blk hbox rfl; have z2 : w3.cell? ⟨gt, 2, none⟩ = _ := cell_blk hbox rfl; have f0 := free_blk hbox 0; have f1 := free_blk hbox 1; have f2 := free_blk hbox 2; have HX3 := Aside0.mk hbox; have HG3 : Aside0 (w2.heap.size ≤ gt) := ⟨by rw [hg]; exact Nat.le_refl _⟩; have HB3 := Aside0.mk hb; clear hb hbox hg))
  obtain ⟨w4, hw4⟩ : ∃ w4, w4 = (((w3.setCell ⟨gt, 0, none⟩ (.int .i64 W)).setCell ⟨gt, 1, none⟩ (.int .i64 H)).setCell ⟨gt, 2, none⟩ (.slice At C.length ct)) := ⟨_, rfl⟩
  rw [← hw4]
  have hX4 : w4.heap[gt]? = some (.cells #[.int .i64 W, .int .i64 H, .slice At C.length ct] 35 (0, 0)) := by rw [hw4]; exact set_blk (set_blk (set_blk HX3.out 0 _) 1 _) 2 _
  have hO4 : Kd.R (Kd.int .u8) 5 w4 w1.heap.size (fun _ => True) (.slice At C.length ct) C := by
    rw [hw4]
    have h3 := Kd.R_below HO2.out HB3.out
    exact R_set (R_set (R_set h3 HX3.out (by decide) 0 _) (set_blk HX3.out 0 _) (by decide) 1 _) (set_blk (set_blk HX3.out 0 _) 1 _) (by decide) 2 _
  have hB4 : Below w1.heap.size w1 w4 := by
    rw [hw4]
    have hg : w1.heap.size ≤ gt := Nat.le_trans HB2.out.size HG3.out
    exact ((((Chg.of_below (below_step HB2.out HB3.out) (fun k => w1.heap.size ≤ k)).set_ (p := ⟨gt, 0, none⟩) (.inl hg) _).set_ (p := ⟨gt, 1, none⟩) (.inl hg) _).set_ (p := ⟨gt, 2, none⟩) (.inl hg) _).below (fun k hk => hk) (Nat.le_refl _)
  have HGT : Aside0 (w1.heap.size ≤ gt) := ⟨Nat.le_trans HB2.out.size HG3.out⟩
  have HX4 := Aside0.mk hX4
  have HO4 := Aside0.mk hO4
  have HB4 := Aside0.mk hB4
  have t0 := cell_blk (j := 0) (u := .int .i64 W) hX4 rfl
  have t1 := cell_blk (j := 1) (u := .int .i64 H) hX4 rfl
  have t2 := cell_blk (j := 2) (u := .slice At C.length ct) hX4 rfl
  clear hX4 hO4 hB4 hw4 z0 z1 z2 f0 f1 f2 HX3 HG3 HB3 HB2 HO2
  obtain ⟨lf, hlf⟩ : ∃ lf, lf = l3.take (min l3.length 9) := ⟨_, rfl⟩
  have hlen : lf.length = min l3.length 9 := by rw [hlf, List.length_take]; omega
  have hl9 : lf.length ≤ 9 := by omega
  have hse := seeds_some HTT.out lf (by omega)
  obtain ⟨s, hs⟩ : ∃ s, s = seedsOf W H C lf := ⟨_, rfl⟩
  have hsok : SeedsOk W H C s := by rw [hs]; exact seedsOf_ok HTT.out lf
  have hsl : s.length ≤ 9 := by rw [hs]; exact Nat.le_trans (seedsOf_len W H C lf) hl9
  rw [← hs] at hse
  have HSE := Aside0.mk hse
  have HSO := Aside0.mk hsok
  have HSL := Aside0.mk hsl
  have HLF : Aside0 (∀ wx, Kd.C (Kd.int .i64) wx A3 l3.length l3 → Kd.C (Kd.int .i64) wx A3 lf.length lf) := ⟨fun wx h => by rw [hlf]; exact Kd.C_take h (by omega)⟩
  have HLN := Aside0.mk hlen
  obtain ⟨ji, hji⟩ : ∃ j : Int, j = (lf.length : Int) := ⟨_, rfl⟩
  have hmin2 : (if (9 : Int) < (l3.length : Int) then (9 : Int) else (l3.length : Int)) = ji := by rw [hji]; split <;> omega
  obtain ⟨i05, hi05, _, _, _⟩ := info_parts info3
  have hcut := cut_to (P := Try.prog) 36 3 .i64 Try.underlying36 hi05 A3 l3.length c3 ji (by omega) (by omega) HC3.out
  rw [show ji.toNat = lf.length by omega] at hcut
  have hfc : lf.length ≤ c3 := by have := HC3.out; omega
  have HFC := Aside0.mk hfc
  clear hlf hse hs hsok hsl hl9 hfc hji hlen hi05
  go_region_held3 (fun w' => w'.cell? ⟨gt, 0, none⟩ = some (.int .i64 W) ∧ w'.cell? ⟨gt, 1, none⟩ = some (.int .i64 H) ∧ w'.cell? ⟨gt, 2, none⟩ = some (.slice At C.length ct))
    (first | exact ⟨t0, t1, t2⟩ | exact ⟨u0, u1, u2⟩ | go_keep)
    (first
      | (go_at_call 38; refine (herdsmanref7_Seeds.calls W H At ct C A3 c3 lf s _ (Kd.C_drew (R_C HO4.out).1) (R_C HO4.out).2 (HLF.out _ (Kd.C_drew (Kd.C_below HR3.out (below_step HB1.out HB4.out)))) HFC.out HSE.out).mono ?_; rintro e w5 ⟨v5, rfl, ho, hb⟩; obtain ⟨As, cs, rfl⟩ := Kd.R_slice ho; have u0 := pw_cell_below hb (a := ⟨gt, 0, none⟩) (v := .int .i64 W) t0; have u1 := pw_cell_below hb (a := ⟨gt, 1, none⟩) (v := .int .i64 H) t1; have u2 := pw_cell_below hb (a := ⟨gt, 2, none⟩) (v := .slice At C.length ct) t2; have HB5 := Aside0.mk (below_step (below_drew1 (Below.refl _ _)) hb); have HO5 := Aside0.mk ho; clear hb ho))
  rename_i hHeld
  obtain ⟨t0, t1, t2⟩ := hHeld
  clear u0 u1 u2 hmin2 hcut
  go_upto_region 7 with (first
    | ((with_reducible refine gate_dst (N := 34) rfl ?_); refine Kd.R_lit k25 w5.heap.size 25 ?hg (N := 34) ?hd (xs := ([] : List Seed)) (inner := []) (ok := fun _ => True) (okp := fun _ => True) ?hr ?hp (fun _ hk => hk) trivial (Below.refl _ _) (Nat.le_refl _) (by simp) ?_; (case hd => rfl); (case hg => rfl); (case hr => first | (go_simp; done) | (go_simp; rfl)); (case hp => exact (Reps.none _ _)); intro v6 w6 ho hb _ _; have HB6 := Aside0.mk hb; have HO6 := Aside0.mk ho; have t0 := pw_cell_below hb t0; have t1 := pw_cell_below hb t1; have t2 := pw_cell_below hb t2; clear ho hb)
    | ((with_reducible refine gate_builtin (b := .append) (xs := #[.tmp 34, .tmp 35]) rfl ?_); at_builtin; refine Kd.R_append_rows k25 (w0 := w5) w5.heap.size rfl (.tmp 34) (.tmp 35) 22 25 (.agg #[(.int .i64 0), (.int .i64 0), (.int .i64 0)]) 24 rfl Try.underlying22 info25 rfl (by decide) (by omega) v6 [] s _ _ _ (fun _ => True) (fun _ => False) rfl rfl HO6.out (R_C (Kd.R_below HO5.out HB6.out)).1 (fun _ _ h => h) (fun _ h => h.elim) (fun _ _ => trivial) HB6.out HB6.out.size (by have := HSL.out; simp only [List.length_nil]; omega) ?_; intro v7 w7 ho hb hg hat; rw [List.nil_append] at ho; obtain ⟨Ay, cy, rfl⟩ := Kd.R_slice ho; have HB7 := Aside0.mk hb; have HO7 := Aside0.mk ho; clear ho hb hg hat))
  have hX7 := (HB7.out.block gt (by have h1 := blk_lt HX4.out; have h2 := HB5.out.size; omega)).trans ((HB5.out.block gt (blk_lt HX4.out)).trans HX4.out)
  have hS7 : ShelfM w7 (fun b => w.heap.size ≤ b ∧ b < w1.heap.size) sb lb 2 (.slice none 0 0) mb [] (-1) (-1) (.map []) [] (.slice none 0 0) [] [] cnt0 := ShelfM.below (ShelfM.below (ShelfM.below HS1.out HB4.out) HB5.out) HB7.out
  have hz1 : w1.heap.size ≤ w4.heap.size := HB4.out.size
  have hz2 : w4.heap.size ≤ w5.heap.size := HB5.out.size
  have hz3 : w5.heap.size ≤ w7.heap.size := HB7.out.size
  have hT7 : Kd.R (Kd.int .u8) 5 w7 w1.heap.size (fun _ => True) (.slice At C.length ct) C := Kd.R_below (Kd.R_below HO4.out HB5.out) HB7.out
  have hQ7 : RowS w7 w4.heap.size (fun b => b < w5.heap.size) (.slice As s.length cs) s := Kd.R_mono (Kd.R_lower (Kd.R_below (Kd.R_bound HO5.out) HB7.out) (Nat.le_refl _)) (fun x hx => hx.2.2.1)
  have hA7 : Handed3 w7 (fun b => w.heap.size ≤ b ∧ b < w1.heap.size) At ct C As cs s :=
    Handed3.of_rows hT7 hQ7 (fun b hb _ => ⟨fun h _ => by omega, fun h _ => by omega⟩) HBY.out (by have h1 := HCL.out; have h2 := HSL.out; omega)
  have HS7 := Aside0.mk hS7
  have HT7 := Aside0.mk hT7
  have HQ7 := Aside0.mk hQ7
  have HA7 := Aside0.mk hA7
  have HZ := Aside0.mk (And.intro hz1 (And.intro hz2 hz3))
  have HX7 := Aside0.mk hX7
  clear hS7 hT7 hQ7 hA7 hz1 hz2 hz3 hX7 t0 t1 t2
  have t0 := cell_blk (j := 0) (u := .int .i64 W) HX7.out rfl
  have t1 := cell_blk (j := 1) (u := .int .i64 H) HX7.out rfl
  have t2 := cell_blk (j := 2) (u := .slice At C.length ct) HX7.out rfl
  go_upto_region 8 with (first
    | (go_at_call 65; refine (get_calls HS7.out (fun b hb => by have := HZ.out; have : b < w1.heap.size := hb.2; omega) rfl (a := 1) (b := 2) (ver := 3) ⟨by omega, by omega⟩ ⟨by omega, by omega⟩ (by simp) (by unfold Cnt.ok cnt0; simp) HA7.out HSO.out).mono ?_; rintro e w8 ⟨d8, r8, Ad, cd, Ae, ce, rfl, sv8, s8, nw8, od8, D8, ord8, fv8, kvs8, kps8, c8, N8, sl8, had8, out8, hm, hn, hwn, hl, hc, hd, hr, hg⟩; have HM8 := Aside0.mk hm; have HN8 := Aside0.mk (And.intro hn (And.intro hwn hl)); have HC8 := Aside0.mk hc; have HD8 := Aside0.mk hd; have HR8 := Aside0.mk hr; have HG8 := Aside0.mk (hg.first (by omega)); clear hm hn hwn hl hc hd hr hg t0 t1 t2)
    | ((with_reducible refine gate_dst (N := 13) rfl ?_); refine box_event ?hg (N := 13) ?hd (cs := #[.slice none 0 0, .slice none 0 0]) (t := 60) ?hr ?_; (case hd => rfl); (case hg => rfl); (case hr => first | (go_simp; done) | (go_simp; rfl)); intro gf hg w9 hbox hb; have z0 : w9.cell? ⟨gf, 0, none⟩ = _ := cell_blk hbox rfl; have z1 : w9.cell? ⟨gf, 1, none⟩ = _ := cell_blk hbox rfl; have f0 := free_blk hbox 0; have f1 := free_blk hbox 1; have HF9 := Aside0.mk hbox; have HGF : Aside0 (w8.heap.size ≤ gf) := ⟨by rw [hg]; exact Nat.le_refl _⟩; have HB9 := Aside0.mk hb; clear hb hbox hg))
  obtain ⟨w10, hw10⟩ : ∃ w10, w10 = ((w9.setCell ⟨gf, 0, none⟩ (.slice Ad d8.length cd)).setCell ⟨gf, 1, none⟩ (.slice Ae r8.length ce)) := ⟨_, rfl⟩
  rw [← hw10]
  have hB10 : Below w8.heap.size w8 w10 := by
    rw [hw10]
    exact (((Chg.of_below HB9.out (fun b => w8.heap.size ≤ b)).set_ (p := ⟨gf, 0, none⟩) (.inl HGF.out) _).set_ (p := ⟨gf, 1, none⟩) (.inl HGF.out) _).below (fun k hk => hk) (Nat.le_refl _)
  have hF10 : w10.heap[gf]? = some (.cells #[.slice Ad d8.length cd, .slice Ae r8.length ce] 60 (0, 0)) := by rw [hw10]; exact set_blk (set_blk HF9.out 0 _) 1 _
  obtain ⟨e1, e2, e3, e4, _, e6, e7⟩ := HG8.out
  have hdl : d8.length ≤ 256 ∧ r8.length ≤ 256 := by
    rw [e1, e2, (distOf_spec HBY.out HSO.out).1, dirs_len]
    exact ⟨HCL.out, HCL.out⟩
  rw [← e1, ← e2] at e6
  have hlc : d8.length = C.length ∧ r8.length = C.length ∧ 1 ≤ C.length := by
    rw [e1, e2, (distOf_spec HBY.out HSO.out).1, dirs_len]
    obtain ⟨t1, t2, t3, t4, t5, t6⟩ := HTT.out
    have h1 : 1 * 1 ≤ W * H := Int.mul_le_mul t1 t3 (by omega) (by omega)
    exact ⟨rfl, rfl, by omega⟩
  have HLC := Aside0.mk hlc
  clear hlc
  have HE3 := Aside0.mk e3
  have HE4 := Aside0.mk e4
  have HE6 := Aside0.mk e6
  have HE7 := Aside0.mk e7
  have HDL := Aside0.mk hdl
  have HM10 := Aside0.mk (HM8.out.below hB10)
  have hD10 := Kd.R_below HD8.out hB10
  have hR10 := Kd.R_below HR8.out hB10
  have HD10 := Aside0.mk hD10
  have HR10 := Aside0.mk hR10
  have HRD : Aside0 (∀ W, Below w10.heap.size w10 W → Kd.C (Kd.int .i64) W Ad d8.length d8) := ⟨fun W hb => Kd.C_below (R_C hD10).1 hb⟩
  have HRE : Aside0 (∀ W, Below w10.heap.size w10 W → Kd.C (Kd.int .i64) W Ae r8.length r8) := ⟨fun W hb => Kd.C_below (R_C hR10).1 hb⟩
  have HF10 := Aside0.mk hF10
  have HB10 := Aside0.mk hB10
  have hrf : Below w10.heap.size w10 w10 := Below.refl _ _
  have HRF := Aside0.mk hrf
  clear e1 e2 e3 e4 e6 e7 hdl hD10 hR10 hw10 hB10 hrf z0 z1 f0 f1 HF9 HB9 HG8 HM8 HD8 HR8
  have q0 := cell_blk (j := 0) (u := .slice Ad d8.length cd) hF10 rfl
  have q1 := cell_blk (j := 1) (u := .slice Ae r8.length ce) hF10 rfl
  clear hF10 t0 t1 t2
  have XC := Aside0.mk (And.intro q0 q1)
  have hgfl : gf < w10.heap.size := blk_lt HF10.out
  have HGFL := Aside0.mk hgfl
  have HFAR : Aside0 (∀ (w' : World) (b : Nat) (u v : Value), w10.heap.size ≤ b → Below w10.heap.size w10 w' → ((w'.setCell ⟨b, 0, none⟩ u).setCell ⟨b, 1, none⟩ v).cell? ⟨gf, 0, none⟩ = some (.slice Ad d8.length cd) ∧ ((w'.setCell ⟨b, 0, none⟩ u).setCell ⟨b, 1, none⟩ v).cell? ⟨gf, 1, none⟩ = some (.slice Ae r8.length ce)) := ⟨fun w' b u v hb hw => by
    have hne : gf ≠ b := by omega
    rw [cfar hne, cfar hne, cfar hne, cfar hne]
    exact ⟨pw_cell_below hw XC.out.1, pw_cell_below hw XC.out.2⟩⟩
  clear hgfl
  go_cut [15] (fun v15 wc => ∃ (gw : Nat) (Aw : Option Addr) (nw_ : Nat) (Ax : Option Addr) (nx : Nat), v15 = .pointer (some ⟨gw, 0, none⟩) ∧ Aside0 (w10.heap.size ≤ gw) ∧ Aside0 (wc.heap[gw]? = some (.cells #[.slice Aw d8.length nw_, .slice Ax r8.length nx] 60 (0, 0))) ∧ Aside0 (RowI wc w10.heap.size (fun _ => True) (.slice Aw d8.length nw_) d8) ∧ Aside0 (RowI wc w10.heap.size (fun _ => True) (.slice Ax r8.length nx) r8) ∧ Aside0 (Below w10.heap.size w10 wc))
  case first =>
    go_region_held3 (fun w' => w'.cell? ⟨gf, 0, none⟩ = some (.slice Ad d8.length cd) ∧ w'.cell? ⟨gf, 1, none⟩ = some (.slice Ae r8.length ce))
      (first | exact ⟨q0, q1⟩ | (refine ⟨pw_cell_below ?_ XC.out.1, pw_cell_below ?_ XC.out.2⟩ <;> ((repeat (first | exact HB51.out | exact HB47.out | exact HRF.out | apply below_alloc | apply pw_below_drewN | apply below_drew1)); done)) | exact HFAR.out _ _ _ _ (by have h2 := HZ47.out; omega) HB51.out | go_keep)
      (first
        | (refine Kd.R_append_rows_step (Kd.int .i64) (w0 := w10) w10.heap.size (by rfl) (.tmp 44) (.tmp 46) 36 3 (.int .i64 0) 8 (by rfl) Try.underlying36 info3 rfl (by decide) (by omega) _ [] d8 _ _ _ (fun _ => True) (fun _ => False) rfl rfl ?aO (HRD.out _ ?aQ) (fun p cs h => h) (fun _ hk => hk.elim) (fun _ _ => trivial) ?aB ?aS ?aL ?_; (case aO => (refine R_boxI ?aH ?aG; (case aH => (first | (refine heapAtI _ _ _ ?_; (first | rfl | (simp only [World.size_alloc, World.size_drew]; done) | (simp only [World.size_alloc, World.size_drew]; omega))) | (refine blk_alloc (heapAtI _ _ _ ?_) _; (first | rfl | (simp only [World.size_alloc, World.size_drew]; done) | (simp only [World.size_alloc, World.size_drew]; omega))) | (refine blk_alloc (blk_alloc (heapAtI _ _ _ ?_) _) _; (first | rfl | (simp only [World.size_alloc, World.size_drew]; done) | (simp only [World.size_alloc, World.size_drew]; omega))))); (case aG => (have h_ := below_size HRF.out; first | exact h_ | exact Nat.le_succ_of_le h_ | (simp; done) | (simp; omega))))); (case aQ => (skip; (repeat (first | exact HRF.out | apply below_alloc | apply pw_below_drewN | apply below_drew1)))); (case aB => (repeat (first | exact HRF.out | apply below_alloc | apply pw_below_drewN | apply below_drew1))); (case aS => (refine below_size ?_; (repeat (first | exact HRF.out | apply below_alloc | apply pw_below_drewN | apply below_drew1)))); (case aL => (have h_ := HDL.out; simp only [List.length_nil]; omega)); intro v47 w47 ho47 hb47 hg47 hat47; rw [List.nil_append] at ho47; obtain ⟨A47, n47, rfl⟩ := Kd.R_slice ho47; have HX47 := Aside0.mk (fun cs => @box2_kept _ _ _ cs (by (first | (refine heapAtI _ _ _ ?_; (first | rfl | (simp only [World.size_alloc, World.size_drew]; done) | (simp only [World.size_alloc, World.size_drew]; omega))) | (refine blk_alloc (heapAtI _ _ _ ?_) _; (first | rfl | (simp only [World.size_alloc, World.size_drew]; done) | (simp only [World.size_alloc, World.size_drew]; omega))) | (refine blk_alloc (blk_alloc (heapAtI _ _ _ ?_) _) _; (first | rfl | (simp only [World.size_alloc, World.size_drew]; done) | (simp only [World.size_alloc, World.size_drew]; omega))))) hg47); have HL47 : Aside0 (∀ k, (Value.slice A47 d8.length n47).ownBlock = some k → (k = _ ∨ _ ≤ k) ∧ k < w47.heap.size) := ⟨fun k hk => ⟨own_or hat47 k hk, ((Kd.R_bound ho47).1 k hk).2.2.1⟩⟩; have HY47 := Aside0.mk (fun b hne (hb : _ = some (Obj.cells #[] 3 (0, 0))) => kept_ne hg47 b hne hb); (try (have ya0 := HX47.out #[.slice none 0 0, .slice none 0 0] (w10.heap.size) (by (first | (refine heapAtI _ _ _ ?_; (first | rfl | (simp only [World.size_alloc, World.size_drew]; done) | (simp only [World.size_alloc, World.size_drew]; omega))) | (refine blk_alloc (heapAtI _ _ _ ?_) _; (first | rfl | (simp only [World.size_alloc, World.size_drew]; done) | (simp only [World.size_alloc, World.size_drew]; omega))) | (refine blk_alloc (blk_alloc (heapAtI _ _ _ ?_) _) _; (first | rfl | (simp only [World.size_alloc, World.size_drew]; done) | (simp only [World.size_alloc, World.size_drew]; omega))))))); (try (have ya1 := HX47.out #[.slice none 0 0, .slice none 0 0] (w10.heap.size + 1) (by (first | (refine heapAtI _ _ _ ?_; (first | rfl | (simp only [World.size_alloc, World.size_drew]; done) | (simp only [World.size_alloc, World.size_drew]; omega))) | (refine blk_alloc (heapAtI _ _ _ ?_) _; (first | rfl | (simp only [World.size_alloc, World.size_drew]; done) | (simp only [World.size_alloc, World.size_drew]; omega))) | (refine blk_alloc (blk_alloc (heapAtI _ _ _ ?_) _) _; (first | rfl | (simp only [World.size_alloc, World.size_drew]; done) | (simp only [World.size_alloc, World.size_drew]; omega))))))); (try (have ya2 := HX47.out #[.slice none 0 0, .slice none 0 0] (w10.heap.size + 1 + 1) (by (first | (refine heapAtI _ _ _ ?_; (first | rfl | (simp only [World.size_alloc, World.size_drew]; done) | (simp only [World.size_alloc, World.size_drew]; omega))) | (refine blk_alloc (heapAtI _ _ _ ?_) _; (first | rfl | (simp only [World.size_alloc, World.size_drew]; done) | (simp only [World.size_alloc, World.size_drew]; omega))) | (refine blk_alloc (blk_alloc (heapAtI _ _ _ ?_) _) _; (first | rfl | (simp only [World.size_alloc, World.size_drew]; done) | (simp only [World.size_alloc, World.size_drew]; omega))))))); (try (have yl0 := HY47.out (w10.heap.size) (by first | omega | (simp only [World.size_alloc, World.size_drew]; omega)) (by (first | (refine heapAtI _ _ _ ?_; (first | rfl | (simp only [World.size_alloc, World.size_drew]; done) | (simp only [World.size_alloc, World.size_drew]; omega))) | (refine blk_alloc (heapAtI _ _ _ ?_) _; (first | rfl | (simp only [World.size_alloc, World.size_drew]; done) | (simp only [World.size_alloc, World.size_drew]; omega))) | (refine blk_alloc (blk_alloc (heapAtI _ _ _ ?_) _) _; (first | rfl | (simp only [World.size_alloc, World.size_drew]; done) | (simp only [World.size_alloc, World.size_drew]; omega))))))); (try (have yl1 := HY47.out (w10.heap.size + 1) (by first | omega | (simp only [World.size_alloc, World.size_drew]; omega)) (by (first | (refine heapAtI _ _ _ ?_; (first | rfl | (simp only [World.size_alloc, World.size_drew]; done) | (simp only [World.size_alloc, World.size_drew]; omega))) | (refine blk_alloc (heapAtI _ _ _ ?_) _; (first | rfl | (simp only [World.size_alloc, World.size_drew]; done) | (simp only [World.size_alloc, World.size_drew]; omega))) | (refine blk_alloc (blk_alloc (heapAtI _ _ _ ?_) _) _; (first | rfl | (simp only [World.size_alloc, World.size_drew]; done) | (simp only [World.size_alloc, World.size_drew]; omega))))))); (try (have yl2 := HY47.out (w10.heap.size + 1 + 1) (by first | omega | (simp only [World.size_alloc, World.size_drew]; omega)) (by (first | (refine heapAtI _ _ _ ?_; (first | rfl | (simp only [World.size_alloc, World.size_drew]; done) | (simp only [World.size_alloc, World.size_drew]; omega))) | (refine blk_alloc (heapAtI _ _ _ ?_) _; (first | rfl | (simp only [World.size_alloc, World.size_drew]; done) | (simp only [World.size_alloc, World.size_drew]; omega))) | (refine blk_alloc (blk_alloc (heapAtI _ _ _ ?_) _) _; (first | rfl | (simp only [World.size_alloc, World.size_drew]; done) | (simp only [World.size_alloc, World.size_drew]; omega))))))); have HO47 := Aside0.mk ho47; have HB47 := Aside0.mk hb47; have HZ47 := Aside0.mk hb47.size; clear ho47 hb47 hg47 hat47)
        | (refine Kd.R_append_rows_step (Kd.int .i64) (w0 := w10) w10.heap.size (by rfl) (.tmp 48) (.tmp 50) 36 3 (.int .i64 0) 8 (by rfl) Try.underlying36 info3 rfl (by decide) (by omega) _ [] r8 _ _ _ (fun _ => True) (fun _ => False) rfl rfl ?bO (HRE.out _ ?bQ) (fun p cs h => h) (fun _ hk => hk.elim) (fun _ _ => trivial) ?bB ?bS ?bL ?_; (case bO => (refine R_boxI ?bH ?bG; (case bH => (first | (first | (refine heapAtI _ _ _ ?_; (first | rfl | (simp only [World.size_alloc, World.size_drew]; done) | (simp only [World.size_alloc, World.size_drew]; omega))) | (refine blk_alloc (heapAtI _ _ _ ?_) _; (first | rfl | (simp only [World.size_alloc, World.size_drew]; done) | (simp only [World.size_alloc, World.size_drew]; omega))) | (refine blk_alloc (blk_alloc (heapAtI _ _ _ ?_) _) _; (first | rfl | (simp only [World.size_alloc, World.size_drew]; done) | (simp only [World.size_alloc, World.size_drew]; omega)))) | exact yl0 | exact blk_alloc yl0 _ | exact yl1 | exact blk_alloc yl1 _ | exact yl2 | exact blk_alloc yl2 _)); (case bG => (have h_ := HZ47.out; first | exact h_ | exact Nat.le_succ_of_le h_ | (simp; done) | (simp; omega))))); (case bQ => (skip; (repeat (first | exact HB51.out | exact HB47.out | exact HRF.out | apply below_alloc | apply pw_below_drewN | apply below_drew1)))); (case bB => (repeat (first | exact HB51.out | exact HB47.out | exact HRF.out | apply below_alloc | apply pw_below_drewN | apply below_drew1))); (case bS => (refine below_size ?_; (repeat (first | exact HB51.out | exact HB47.out | exact HRF.out | apply below_alloc | apply pw_below_drewN | apply below_drew1)))); (case bL => (have h_ := HDL.out; simp only [List.length_nil]; omega)); intro v51 w51 ho51 hb51 hg51 hat51; rw [List.nil_append] at ho51; obtain ⟨A51, n51, rfl⟩ := Kd.R_slice ho51; have hx51 := fun cs => @box2_kept _ _ _ cs (by first | (first | (refine heapAtI _ _ _ ?_; (first | rfl | (simp only [World.size_alloc, World.size_drew]; done) | (simp only [World.size_alloc, World.size_drew]; omega))) | (refine blk_alloc (heapAtI _ _ _ ?_) _; (first | rfl | (simp only [World.size_alloc, World.size_drew]; done) | (simp only [World.size_alloc, World.size_drew]; omega))) | (refine blk_alloc (blk_alloc (heapAtI _ _ _ ?_) _) _; (first | rfl | (simp only [World.size_alloc, World.size_drew]; done) | (simp only [World.size_alloc, World.size_drew]; omega)))) | exact yl0 | exact blk_alloc yl0 _ | exact yl1 | exact blk_alloc yl1 _ | exact yl2 | exact blk_alloc yl2 _) hg51; have HP47 := Aside0.mk (C_moved (by (with_reducible repeat (first | apply Kd.R_alloc | apply Kd.R_drewN | apply Kd.R_drew)); exact HO47.out) hg51 (fun k hk e => by obtain ⟨h1, h3⟩ := HL47.out k hk; have h2 := HZ47.out; (try simp only [World.size_alloc, World.size_drew] at h1); (try simp only [World.size_alloc, World.size_drew] at e); omega)); (try (have yb0 := hx51 #[.slice none 0 0, .slice none 0 0] (w10.heap.size) (by first | exact ya0 | exact blk_alloc ya0 _); have yb0c := cell_blk (j := 0) (u := .slice none 0 0) yb0 rfl; have yb0d := cell_blk (j := 1) (u := .slice none 0 0) yb0 rfl; have yb0e := free_blk yb0 0; have yb0f := free_blk yb0 1)); (try (have yb1 := hx51 #[.slice none 0 0, .slice none 0 0] (w10.heap.size + 1) (by first | exact ya1 | exact blk_alloc ya1 _); have yb1c := cell_blk (j := 0) (u := .slice none 0 0) yb1 rfl; have yb1d := cell_blk (j := 1) (u := .slice none 0 0) yb1 rfl; have yb1e := free_blk yb1 0; have yb1f := free_blk yb1 1)); (try (have yb2 := hx51 #[.slice none 0 0, .slice none 0 0] (w10.heap.size + 1 + 1) (by first | exact ya2 | exact blk_alloc ya2 _); have yb2c := cell_blk (j := 0) (u := .slice none 0 0) yb2 rfl; have yb2d := cell_blk (j := 1) (u := .slice none 0 0) yb2 rfl; have yb2e := free_blk yb2 0; have yb2f := free_blk yb2 1)); (try (have yb3 := hx51 #[.slice none 0 0, .slice none 0 0] (w47.heap.size) (by (first | (refine heapAtI _ _ _ ?_; (first | rfl | (simp only [World.size_alloc, World.size_drew]; done) | (simp only [World.size_alloc, World.size_drew]; omega))) | (refine blk_alloc (heapAtI _ _ _ ?_) _; (first | rfl | (simp only [World.size_alloc, World.size_drew]; done) | (simp only [World.size_alloc, World.size_drew]; omega))) | (refine blk_alloc (blk_alloc (heapAtI _ _ _ ?_) _) _; (first | rfl | (simp only [World.size_alloc, World.size_drew]; done) | (simp only [World.size_alloc, World.size_drew]; omega))))); have yb3c := cell_blk (j := 0) (u := .slice none 0 0) yb3 rfl; have yb3d := cell_blk (j := 1) (u := .slice none 0 0) yb3 rfl; have yb3e := free_blk yb3 0; have yb3f := free_blk yb3 1)); (try (have yb4 := hx51 #[.slice none 0 0, .slice none 0 0] (w47.heap.size + 1) (by (first | (refine heapAtI _ _ _ ?_; (first | rfl | (simp only [World.size_alloc, World.size_drew]; done) | (simp only [World.size_alloc, World.size_drew]; omega))) | (refine blk_alloc (heapAtI _ _ _ ?_) _; (first | rfl | (simp only [World.size_alloc, World.size_drew]; done) | (simp only [World.size_alloc, World.size_drew]; omega))) | (refine blk_alloc (blk_alloc (heapAtI _ _ _ ?_) _) _; (first | rfl | (simp only [World.size_alloc, World.size_drew]; done) | (simp only [World.size_alloc, World.size_drew]; omega))))); have yb4c := cell_blk (j := 0) (u := .slice none 0 0) yb4 rfl; have yb4d := cell_blk (j := 1) (u := .slice none 0 0) yb4 rfl; have yb4e := free_blk yb4 0; have yb4f := free_blk yb4 1)); have HO51 := Aside0.mk ho51; have HB51 := Aside0.mk hb51; clear ho51 hb51 hg51 hat51 hx51))
    all_goals (try go_wp2_with fail)
    all_goals go_meet
    all_goals first
      | exact box_late HP47.out HO51.out HB51.out
      | exact box_end HP47.out HO51.out HB51.out (Nat.le_refl _) yb0
      | exact box_end HP47.out HO51.out HB51.out (Nat.le_add_right _ _) yb1
      | exact box_end HP47.out HO51.out HB51.out (by omega) yb2
      | exact box_end HP47.out HO51.out HB51.out HZ47.out yb3
      | exact box_end HP47.out HO51.out HB51.out (Nat.le_succ_of_le HZ47.out) yb4
      | (trace_state; fail)
  case rest =>
    obtain ⟨gw, Aw, nw_, Ax, nx, rfl, HGW, HWB, HWD, HWR, HBC⟩ := hcut
    have hz := HZ.out
    have hn8 := HN8.out
    have hz8 := HC8.out.size
    have hz10 := HB10.out.size
    have hzc := HBC.out.size
    have hT0 : Kd.R (Kd.int .u8) 5 w7 w1.heap.size (fun b => b < w4.heap.size) (.slice At C.length ct) C := Kd.R_below (Kd.R_below (Kd.R_mono (Kd.R_bound HO4.out) (fun x hx => hx.2.2.1)) HB5.out) HB7.out
    have hT1 := Kd.R_below (Kd.R_below (HC8.out.R (Kd.R_bound hT0) (fun x hx e => by have h1 := hx.2.1; have h2 : x < w1.heap.size := e.2; omega)) HB10.out) HBC.out
    have HTc : Aside0 (Kd.R (Kd.int .u8) 5 wc w1.heap.size (fun b => b < w4.heap.size) (.slice At C.length ct) C) := ⟨Kd.R_mono hT1 (fun x hx => hx.1)⟩
    have hY0 : RowS w7 w5.heap.size (fun b => b < w7.heap.size) (.slice Ay s.length cy) s := Kd.R_mono (Kd.R_bound HO7.out) (fun x hx => hx.2.2.1)
    have hY1 := Kd.R_below (Kd.R_below (HC8.out.R (Kd.R_bound hY0) (fun x hx e => by have h1 := hx.2.1; have h2 : x < w1.heap.size := e.2; omega)) HB10.out) HBC.out
    have HYc : Aside0 (RowS wc w5.heap.size (fun b => b < w7.heap.size) (.slice Ay s.length cy) s) := ⟨Kd.R_mono hY1 (fun x hx => hx.1)⟩
    have hS1 := Kd.R_below (Kd.R_below (HC8.out.R (Kd.R_bound HQ7.out) (fun x hx e => by have h1 := hx.2.1; have h2 : x < w1.heap.size := e.2; omega)) HB10.out) HBC.out
    have HSc : Aside0 (RowS wc w4.heap.size (fun b => b < w5.heap.size) (.slice As s.length cs) s) := ⟨Kd.R_mono hS1 (fun x hx => hx.1)⟩
    have HSB := Aside0.mk (SeedBlk.of_row hS1)
    have HSN : Aside0 (∀ g, As = some ⟨g, 0, none⟩ → w4.heap.size ≤ g ∧ g < w5.heap.size) := ⟨fun g e => ⟨(R_base HSc.out _ e).1, by
      have h1 := HSc.out
      rw [e] at h1
      exact (h1.1 g (by simp [Value.ownBlock]))⟩⟩
    have hXc : wc.heap[gt]? = some (.cells #[.int .i64 W, .int .i64 H, .slice At C.length ct] 35 (0, 0)) := blk_step (blk_step (HC8.out.blk HX7.out (fun e => by have h1 : gt < w1.heap.size := e.2; have h2 := HGT.out; omega)) HB10.out) HBC.out
    have hg4 := blk_lt HX4.out
    have HXc := Aside0.mk hXc
    have HGT4 := Aside0.mk hg4
    have HMc := Aside0.mk (HM10.out.below HBC.out)
    have HZZ := Aside0.mk (And.intro hz8 (And.intro hz10 hzc))
    clear hz hn8 hz8 hz10 hzc hT0 hT1 hY0 hY1 hS1 hXc hg4
    have hFc := (HBC.out.block gf (blk_lt HF10.out)).trans HF10.out
    have hDc := Kd.R_below HD10.out HBC.out
    have hRc := Kd.R_below HR10.out HBC.out
    have hlc := HLC.out
    cases Ad with
    | none => exact absurd (C_none (R_C hDc).1) (fun e => by rw [e] at hlc; simp at hlc; omega)
    | some ad =>
    cases Ae with
    | none => exact absurd (C_none (R_C hRc).1) (fun e => by rw [e] at hlc; simp at hlc; omega)
    | some ae =>
    obtain ⟨gd, csd, rfl, hgd, hbd, hnd⟩ := rowBlk hDc
    obtain ⟨ge, cse, rfl, hge, hbe, hne⟩ := rowBlk hRc
    have hfd : gf ≠ gd := fun e => by rw [e, hbd] at hFc; injection hFc with hFc; injection hFc with _ hFc _; exact absurd hFc (by decide)
    have hfe : gf ≠ ge := fun e => by rw [e, hbe] at hFc; injection hFc with hFc; injection hFc with _ hFc _; exact absurd hFc (by decide)
    have hds := (R_base HD10.out _ rfl).2
    have hes := (R_base HR10.out _ rfl).2
    have hcut1 := trivial
    have HFD := Aside0.mk (And.intro hfd hfe)
    have HFC1 := Aside0.mk hFc
    have HBD := Aside0.mk (⟨csd, hbd, hnd⟩ : IntBlk wc gd d8.length)
    have HBE := Aside0.mk (⟨cse, hbe, hne⟩ : IntBlk wc ge r8.length)
    have HNE := Aside0.mk (And.intro hgd hge)
    have HNS := Aside0.mk (And.intro hds hes)
    have h4 : ((d8.length : Int)) = (r8.length : Int) := by omega
    have HLE := Aside0.mk h4
    clear hFc hDc hRc hlc hgd hbd hnd hge hbe hne hfd hfe hds hes hcut1 h4 q0 q1 XC HFAR HRD HRE HRF
    go_wp2_with fail
    go_loopg [16] d8.length (fun gg v16 wr => ∃ i : Nat, v16 = .int .i64 i ∧ i ≤ d8.length ∧ d8.length - i ≤ gg ∧ Aside0 (IntBlk wr gd d8.length) ∧ Aside0 (IntBlk wr ge r8.length) ∧ Aside0 (wr.heap[gf]? = some (.cells #[.slice (some ⟨gd, 0, none⟩) d8.length cd, .slice (some ⟨ge, 0, none⟩) r8.length ce] 60 (0, 0))) ∧ Aside0 (Chg (fun b => b = gd ∨ b = ge) wc wr))
    case atStart => exact ⟨0, rfl, Nat.zero_le _, Nat.le_refl _, HBD, HBE, HFC1, ⟨Chg.refl _ _⟩⟩
    case round =>
      obtain ⟨i, rfl, hi, hgg, LD, LE, LF, LC⟩ := hrel
      have q0 := cell_blk (j := 0) (u := .slice (some ⟨gd, 0, none⟩) d8.length cd) LF.out rfl
      have q1 := cell_blk (j := 1) (u := .slice (some ⟨ge, 0, none⟩) r8.length ce) LF.out rfl
      by_cases hlt : i < d8.length
      · have hlt2 : (i : Int) < (d8.length : Int) := by omega
        have hlt3 : (i : Int) < (r8.length : Int) := by have := HLE.out; omega
        have hlt4 : i < r8.length := by omega
        go_upto_region 12 with fail
        have hi0 : (0 : Int) ≤ (i : Int) := by omega
        obtain ⟨u1, kd, fd⟩ := LD.out.cell hlt
        obtain ⟨u2, ke, fe⟩ := LE.out.cell hlt4
        obtain ⟨u3, ku, fu⟩ := (LE.out.drew.set (b := gd) (i := i) (u := .int .i64 (-9))).cell hlt4
        by_cases hgg : gd = ge
        · have HGG := Aside0.mk hgg
          subst hgg
          clear ke fe
          go_region_held3 (fun w' => w'.cell? ⟨gf, 0, none⟩ = some (.slice (some ⟨gd, 0, none⟩) d8.length cd) ∧ w'.cell? ⟨gf, 1, none⟩ = some (.slice (some ⟨gd, 0, none⟩) r8.length ce))
            (first | exact ⟨q0, q1⟩ | exact ⟨cell_blk (blk_far (w := wr.drew) LF.out HFD.out.1 _) rfl, cell_blk (blk_far (w := wr.drew) LF.out HFD.out.1 _) rfl⟩ | exact ⟨cell_blk (blk_far (blk_far (w := wr.drew) LF.out HFD.out.1 _) HFD.out.2 _) rfl, cell_blk (blk_far (blk_far (w := wr.drew) LF.out HFD.out.1 _) HFD.out.2 _) rfl⟩ | go_keep)
            (first | (trace_state; fail))
          go_wp2_with fail
          have hdl := HDL.out
          go_roundg (d8.length - (i + 1))
          case measure => omega
          case rel => exact ⟨i + 1, by rw [w64 (n := (i : Int) + 1) (by omega) (by omega)]; rfl, by omega, Nat.le_refl _, ⟨LD.out.drew.set.set⟩, ⟨LE.out.drew.set.set⟩, ⟨blk_far (blk_far (w := wr.drew) LF.out HFD.out.1 _) HFD.out.2 _⟩, ⟨(LC.out.drew.set_ (.inl (.inl rfl)) _).set_ (.inl (.inl rfl)) _⟩⟩
        · have hne1 : ge ≠ gd := fun e => hgg e.symm
          have hne2 : ¬ ge = gd := hne1
          go_region_held3 (fun w' => w'.cell? ⟨gf, 0, none⟩ = some (.slice (some ⟨gd, 0, none⟩) d8.length cd) ∧ w'.cell? ⟨gf, 1, none⟩ = some (.slice (some ⟨ge, 0, none⟩) r8.length ce))
            (first | exact ⟨q0, q1⟩ | exact ⟨cell_blk (blk_far (w := wr.drew) LF.out HFD.out.1 _) rfl, cell_blk (blk_far (w := wr.drew) LF.out HFD.out.1 _) rfl⟩ | exact ⟨cell_blk (blk_far (blk_far (w := wr.drew) LF.out HFD.out.1 _) HFD.out.2 _) rfl, cell_blk (blk_far (blk_far (w := wr.drew) LF.out HFD.out.1 _) HFD.out.2 _) rfl⟩ | go_keep)
            (fail)
          go_wp2_with fail
          have hdl := HDL.out
          go_roundg (d8.length - (i + 1))
          case measure => omega
          case rel => exact ⟨i + 1, by rw [w64 (n := (i : Int) + 1) (by omega) (by omega)]; rfl, by omega, Nat.le_refl _, ⟨LD.out.drew.set.set⟩, ⟨LE.out.drew.set.set⟩, ⟨blk_far (blk_far (w := wr.drew) LF.out HFD.out.1 _) HFD.out.2 _⟩, ⟨(LC.out.drew.set_ (.inl (.inl rfl)) _).set_ (.inl (.inr rfl)) _⟩⟩
      · have hi2 : i = d8.length := by omega
        subst hi2
        have hlt2 : decide (((d8.length : Nat) : Int) < (d8.length : Int)) = false := by simp
        have hz := HZ.out
        have hn8 := HN8.out
        have hzz := HZZ.out
        have hns := HNS.out
        have hnn := HNE.out
        have HSB1 : Aside0 (SeedBlk wr As s.length) := ⟨HSB.out.chg LC.out (fun g e hs => by have h1 := HSN.out g e; rcases hs with hs | hs <;> omega)⟩
        have HC1 : Aside0 (Chg (fun b => b = gd ∨ b = ge ∨ (w4.heap.size ≤ b ∧ b < w5.heap.size)) wc wr) := ⟨LC.out.mono (fun b hb => hb.elim .inl (fun h => .inr (.inl h)))⟩
        clear LD LE LF LC HBD HBE HFC1 hz hn8 hzz hns hnn hi hgg
        go_wp2_with fail
        clear q0 q1
        go_loopg [17] s.length (fun gg v17 wv => ∃ i : Nat, v17 = .int .i64 i ∧ i ≤ s.length ∧ s.length - i ≤ gg ∧ Aside0 (SeedBlk wv As s.length) ∧ Aside0 (Chg (fun b => b = gd ∨ b = ge ∨ (w4.heap.size ≤ b ∧ b < w5.heap.size)) wc wv))
        case atStart => exact ⟨0, rfl, Nat.zero_le _, Nat.le_refl _, HSB1, HC1⟩
        case round =>
          obtain ⟨i, rfl, hi, hgg, LS, LC⟩ := hrel
          by_cases hlt : i < s.length
          · have hlt2 : (i : Int) < (s.length : Int) := by omega
            have hi0 : (0 : Int) ≤ (i : Int) := by omega
            obtain h0 | ⟨gs, css, rfl, hbs, hcs⟩ := LS.out
            · exact absurd h0 (by omega)
            obtain ⟨x, hx⟩ := hcs i hlt
            have ks := cell_blk hbs hx
            have fs := free_blk hbs (i * 3 + 2)
            have hgs := HSN.out gs rfl
            have HGS := Aside0.mk hgs
            clear hgs
            go_wp2_with fail
            have hsl := HSL.out
            go_roundg (s.length - (i + 1))
            case measure => omega
            case rel => exact ⟨i + 1, by rw [w64 (n := (i : Int) + 1) (by omega) (by omega)]; rfl, by omega, Nat.le_refl _, ⟨LS.out.set rfl⟩, ⟨LC.out.set_ (.inl (.inr (.inr HGS.out))) _⟩⟩
          · have hi2 : i = s.length := by omega
            subst hi2
            have hlt2 : decide (((s.length : Nat) : Int) < (s.length : Int)) = false := by simp
            have hz := HZ.out
            have hn8 := HN8.out
            have hzz := HZZ.out
            have hns := HNS.out
            have hnn := HNE.out
            have hg4 := HGT4.out
            have hX := LC.out.blk HXc.out (fun e => by rcases e with e | e | e <;> omega)
            have hM := HMc.out.chg LC.out (fun b hb hs => by
              have hb' : (w.heap.size ≤ b ∧ b < w1.heap.size) ∨ (w7.heap.size ≤ b ∧ b < N8) := hb
              rcases hs with e | e | e <;> omega)
            have hT := LC.out.R HTc.out (fun b hb hs => by
              have hb' : b < w4.heap.size := hb
              rcases hs with e | e | e <;> omega)
            have hY := LC.out.R (Kd.R_bound HYc.out) (fun b hb hs => by
              have h1 : b < w7.heap.size := hb.1
              have h2 : w5.heap.size ≤ b := hb.2.1
              rcases hs with e | e | e <;> omega)
            have hA : Handed3 wr (ownN (fun b => w.heap.size ≤ b ∧ b < w1.heap.size) w7.heap.size N8) At ct C Ay cy s :=
              Handed3.of_rows hT hY (fun b hb hlt => by
                have hb' : (w.heap.size ≤ b ∧ b < w1.heap.size) ∨ (w7.heap.size ≤ b ∧ b < N8) := hb
                refine ⟨fun h1 h2 => ?_, fun h1 h2 => ?_⟩
                · have h3 : b < w4.heap.size := h2
                  omega
                · have h3 : b < w7.heap.size := h2.1
                  omega) HBY.out (by have h1 := HCL.out; have h2 := HSL.out; omega)
            have hze := LC.out.size
            have hown : ∀ b, ownN (fun b => w.heap.size ≤ b ∧ b < w1.heap.size) w7.heap.size N8 b → b < wr.heap.size := fun b hb => by
              have hb' : (w.heap.size ≤ b ∧ b < w1.heap.size) ∨ (w7.heap.size ≤ b ∧ b < N8) := hb
              omega
            have hWB := LC.out.blk HWB.out (fun e => by have h1 := HGW.out; rcases e with e | e | e <;> omega)
            have hWD := LC.out.R (Kd.R_bound HWD.out) (fun b hb hs => by
              have h2 : w10.heap.size ≤ b := hb.2.1
              rcases hs with e | e | e <;> omega)
            have hWR := LC.out.R (Kd.R_bound HWR.out) (fun b hb hs => by
              have h2 : w10.heap.size ≤ b := hb.2.1
              rcases hs with e | e | e <;> omega)
            have hnow : ∀ b, w10.heap.size ≤ b → ¬ ownN (fun b => w.heap.size ≤ b ∧ b < w1.heap.size) w7.heap.size N8 b := fun b hb hs => by
              have hb' : (w.heap.size ≤ b ∧ b < w1.heap.size) ∨ (w7.heap.size ≤ b ∧ b < N8) := hs
              omega
            have hBe : Chg (fun b => w.heap.size ≤ b) w wr := by
              have h7 : Below w.heap.size w w7 := below_step (below_step (below_step HB1.out HB4.out) HB5.out) HB7.out
              have hs1 := HB1.out.size
              have h8 := (Chg.of_below h7 (fun b => w.heap.size ≤ b)).then_ HC8.out (fun b hb => .inl hb.1)
              have h10 := h8.then_ (Chg.of_below HB10.out (fun _ => False)) (fun _ h => h.elim)
              have hc := h10.then_ (Chg.of_below HBC.out (fun _ => False)) (fun _ h => h.elim)
              exact hc.then_ LC.out (fun b hb => .inl (show w.heap.size ≤ b by rcases hb with e | e | e <;> omega))
            have HXe := Aside0.mk hX
            have HMe := Aside0.mk hM
            have HAe := Aside0.mk hA
            have HOe := Aside0.mk hown
            have HWBe := Aside0.mk hWB
            have HWDe := Aside0.mk hWD
            have HWRe := Aside0.mk hWR
            have HNOW := Aside0.mk hnow
            have HBe := Aside0.mk hBe
            have HZE : Aside0 (w10.heap.size ≤ wr.heap.size ∧ w.heap.size ≤ w7.heap.size) := ⟨⟨by omega, by have := HB1.out.size; omega⟩⟩
            clear hz hn8 hzz hns hnn hg4 hX hM hT hY hA hze hown hWB hWD hWR hnow hBe LS LC hi hgg
            have t0 := cell_blk (j := 0) (u := .int .i64 W) HXe.out rfl
            have t1 := cell_blk (j := 1) (u := .int .i64 H) HXe.out rfl
            have t2 := cell_blk (j := 2) (u := .slice At C.length ct) HXe.out rfl
            go_upto_region 18 with (first
              | (go_at_call 65; refine (get_calls HMe.out HOe.out HN8.out.2.2 (a := 1) (b := 2) (ver := 3) ⟨by omega, by omega⟩ ⟨by omega, by omega⟩ (by rw [HE3.out]; omega) (by rw [HE7.out]; unfold Cnt.ok cnt0; simp) HAe.out HSO.out).mono ?_; rintro e w18 ⟨d9, r9, Ap, cp, Aq, cq, rfl, sv9, s9, nw9, od9, D9, ord9, fv9, kvs9, kps9, c9, N9, sl9, had9, out9, hm, hn, hwn, hl, hc, hd, hr, hg⟩; rw [HE3.out] at hg; have HG9 := Aside0.mk (hg.again HE4.out HE6.out); have HM9 := Aside0.mk hm; have HC9 := Aside0.mk hc; have HD9 := Aside0.mk hd; have HR9 := Aside0.mk hr; have HN9 := Aside0.mk (And.intro hn hwn); clear hm hn hwn hl hc hd hr hg t0 t1 t2)
              | ((with_reducible refine gate_dst (N := 18) rfl ?_); refine box_event ?hg (N := 18) ?hd (cs := #[.slice none 0 0, .slice none 0 0]) (t := 60) ?hr ?_; (case hd => rfl); (case hg => rfl); (case hr => first | (go_simp; done) | (go_simp; rfl)); intro gg hg w19 hbox hb; have z0 : w19.cell? ⟨gg, 0, none⟩ = _ := cell_blk hbox rfl; have z1 : w19.cell? ⟨gg, 1, none⟩ = _ := cell_blk hbox rfl; have f0 := free_blk hbox 0; have f1 := free_blk hbox 1; have HF19 := Aside0.mk hbox; have HGG : Aside0 (w18.heap.size ≤ gg) := ⟨by rw [hg]; exact Nat.le_refl _⟩; have HB19 := Aside0.mk hb; clear hb hbox hg))
            obtain ⟨g1, g2, _, g4⟩ := HG9.out
            subst g1
            subst g2
            have g5 := g4.trans (by rw [HE7.out])
            have hcv : cntV c9 = .agg #[.int .u64 0, .int .u64 0, .int .u64 1, .int .u64 1, .int .u64 0, .int .u64 0] := by rw [g5]; rfl
            have HCV := Aside0.mk hcv
            obtain ⟨w20, hw20⟩ : ∃ w20, w20 = ((w19.setCell ⟨gg, 0, none⟩ (.slice Ap d9.length cp)).setCell ⟨gg, 1, none⟩ (.slice Aq r9.length cq)) := ⟨_, rfl⟩
            rw [← hw20]
            have hB20 : Below w18.heap.size w18 w20 := by
              rw [hw20]
              exact (((Chg.of_below HB19.out (fun b => w18.heap.size ≤ b)).set_ (p := ⟨gg, 0, none⟩) (.inl HGG.out) _).set_ (p := ⟨gg, 1, none⟩) (.inl HGG.out) _).below (fun k hk => hk) (Nat.le_refl _)
            have hF20 : w20.heap[gg]? = some (.cells #[.slice Ap d9.length cp, .slice Aq r9.length cq] 60 (0, 0)) := by rw [hw20]; exact set_blk (set_blk HF19.out 0 _) 1 _
            have HM20 := Aside0.mk (HM9.out.below hB20)
            have HD20 := Aside0.mk (R_C (Kd.R_below HD9.out hB20))
            have HR20 := Aside0.mk (R_C (Kd.R_below HR9.out hB20))
            have HWD20 := Aside0.mk (R_C (Kd.R_below (HC9.out.R (Kd.R_bound HWDe.out) (fun b hb hs => HNOW.out b hb.2.1 hs)) hB20))
            have HWR20 := Aside0.mk (R_C (Kd.R_below (HC9.out.R (Kd.R_bound HWRe.out) (fun b hb hs => HNOW.out b hb.2.1 hs)) hB20))
            have hWB20 := blk_step (HC9.out.blk HWBe.out (HNOW.out gw HGW.out)) hB20
            have HB20 : Aside0 (Below w.heap.size w w20) := ⟨by
              have h1 := HBe.out.then_ HC9.out (fun b hb => .inl (show w.heap.size ≤ b by
                have hb' : (w.heap.size ≤ b ∧ b < w1.heap.size) ∨ (w7.heap.size ≤ b ∧ b < N8) := hb
                have := HZE.out
                omega))
              exact (h1.then_ (Chg.of_below hB20 (fun _ => False)) (fun _ h => h.elim)).below (fun k hk => hk) (Nat.le_refl _)⟩
            have g0 := cell_blk (j := 0) (u := .slice Ap d9.length cp) hF20 rfl
            have g1 := cell_blk (j := 1) (u := .slice Aq r9.length cq) hF20 rfl
            have h0 := cell_blk (j := 0) (u := .slice Aw d9.length nw_) hWB20 rfl
            have h1 := cell_blk (j := 1) (u := .slice Ax r9.length nx) hWB20 rfl
            have HSF := Aside0.mk (sameField_o d9 r9 (by have := HDL.out; omega) (by have := HDL.out; omega) 5000 (by have := HDL.out; omega))
            clear hw20 hB20 hF20 hWB20 z0 z1 f0 f1 HF19 HB19 g4 g5 hcv
            go_wp2_with (first
              | (go_at_call 66; refine (told19_calls _).mono ?_; rintro e w21 ⟨rfl, hb⟩; have HB21 := Aside0.mk hb; have g0 := pw_cell_below hb g0; have g1 := pw_cell_below hb g1; have h0 := pw_cell_below hb h0; have h1 := pw_cell_below hb h1; clear hb)
              | (go_at_call 59; refine (herdsmanref7_SameField.calls 5000 Ap cp d9 Aq cq r9 Aw nw_ d9 Ax nx r9 true _ (Kd.C_below HD20.out.1 HB21.out) HD20.out.2 (Kd.C_below HR20.out.1 HB21.out) HR20.out.2 (Kd.C_below HWD20.out.1 HB21.out) HWD20.out.2 (Kd.C_below HWR20.out.1 HB21.out) HWR20.out.2 HSF.out).mono ?_; rintro e w22 ⟨rfl, hb⟩; have HB22 := Aside0.mk (below_step HB21.out hb); clear hb)
              | (go_at_call 67; refine (countS_calls (HM20.out.below HB22.out)).mono ?_; rintro e w23 ⟨he, hb⟩; rw [HCV.out] at he; subst he; have HB23 := Aside0.mk (below_step HB22.out hb); clear hb))
            go_ret
            exact ⟨rfl, below_step HB20.out HB23.out⟩
/-- As the row's form wants it. -/
noncomputable def shelfOwnH.f (n : Nat) (a0 a1 : Int) (l2 l3 : List Int) : Option Bool := open Classical in if l2.length ≤ 140737488355328 ∧ ∀ x ∈ l2, 0 ≤ x ∧ x ≤ 255 then some true else none
theorem shelfOwnH.calls (n : Nat) (a0 a1 : Int) (A2 : Option Addr) (c2 : Nat) (l2 : List Int) (A3 : Option Addr) (c3 : Nat) (l3 : List Int) (r : Bool) (w : World) (hr2 : Kd.C (Kd.int .u8) w A2 l2.length l2) (hc2 : l2.length ≤ c2) (hr3 : Kd.C (Kd.int .i64) w A3 l3.length l3) (hc3 : l3.length ≤ c3) (h : shelfOwnH.f n a0 a1 l2 l3 = some r) :
    Calls Try.prog 24 #[.int .i64 a0, .int .i64 a1, .slice A2 l2.length c2, .slice A3 l3.length c3] w fun e w' => e = .returned (.bool r) ∧ Below w.heap.size w w' := by
  unfold shelfOwnH.f at h
  split at h
  · rename_i hb
    obtain rfl := Option.some.inj h
    exact shelfOwn_calls a0 a1 A2 c2 l2 A3 c3 l3 w hr2 hc2 hr3 hc3 hb.1 hb.2
  · exact absurd h (by simp)
end Go.Proofs.Ytgcfcemgeppkmaa.P
