/-
  sweep.Spread.
-/
import Derived.Test.YtgcfcemgeppkmaaXRun
import Derived.Test.YtgcfcemgeppkmaaXRep
import Derived.Test.YtgcfcemgeppkmaaXMay
import Derived.Deep.RegionHeld3
import Derived.Deep.DeepCutAuto
import Derived.Deep.CutBlock
namespace Go.Proofs.Ytgcfcemgeppkmaa.P
open Go.RowKit Go.Proofs.YtgcfcemgeppkmaaW.PrintWords Go.Proofs.YtgcfcemgeppkmaaW.PrintLast Go.Proofs.YtgcfcemgeppkmaaW.PrintMore
open Go.Proofs.Ytgcfcemgeppkmaa.Dist
set_option linter.unusedVariables false
set_option linter.unusedSimpArgs false

theorem blk_step {w w' : World} {g : Nat} {o : Obj} (h : w.heap[g]? = some o) (hb : Below w.heap.size w w') : w'.heap[g]? = some o := by rw [hb.block g (blk_lt h)]; exact h
theorem new_made (w : World) : Calls Try.prog 85 #[.int .i64 0] w fun e w' => ∃ G, e = .returned (.pointer (some ⟨G, 0, none⟩)) ∧ Below w.heap.size w w' ∧ w.heap.size ≤ G ∧ G < w'.heap.size ∧ ∃ cs : Array Value, cs.toList = .int .i64 0 :: .int .i64 0 :: ringZ 256 ∧ w'.heap[G]? = some (.cells cs 139 (0, 0)) := by
  refine (New_calls w).mono ?_
  rintro e w' ⟨rfl, cs, hcs, rfl⟩
  have hb := heap_alloc_new w (.cells cs 139 (0, 0))
  exact ⟨_, rfl, below_alloc (Below.refl _ _) _, Nat.le_refl _, blk_lt hb, cs, hcs, hb⟩
theorem sort_made (A0 : Option Addr) (c0 : Nat) (l0 : List Seed) (hl : l0.length < 5864062014805) (w : World) (hr0 : Kd.C k25 w A0 l0.length l0) (hc0 : l0.length ≤ c0) :
    Calls Try.prog 29 #[.slice A0 l0.length c0] w fun e w' => ∃ AS cS, e = .returned (.slice AS (sortU l0).length cS) ∧ Below w.heap.size w w' ∧ (sortU l0).length ≤ cS ∧ Kd.C k25 w' AS (sortU l0).length (sortU l0) ∧ ∀ ad, AS = some ad → w.heap.size ≤ ad.block ∧ ad.block < w'.heap.size := by
  refine (seedsSort_calls A0 c0 l0 (sortU l0) w hr0 hc0 (by unfold seedsSortF; rw [if_pos hl])).mono ?_
  rintro e w' ⟨v, rfl, hR, hB⟩
  obtain ⟨hok, _⟩ := Kd.R_bound hR
  obtain ⟨A', c', rfl, hl, hr⟩ := Kd.R_reads hR
  refine ⟨A', c', rfl, hB, hl, hr, fun ad he => ?_⟩
  have := hok ad.block (by rw [he]; rfl)
  exact ⟨this.2.1, this.2.2.1⟩
theorem rep_made (B cap n : Nat) (hn : 1 ≤ n ∧ n ≤ 256) (w : World) (h : w.cell? ⟨B, 0, none⟩ = some (.int .i64 1099511627776)) :
    Calls Try.prog 86 #[.slice (some ⟨B, 0, none⟩) 1 cap, .int .i64 n] w fun e w' => ∃ gd, e = .returned (.slice (some ⟨gd, 0, none⟩) n n) ∧ Below w.heap.size w w' ∧ w.heap.size ≤ gd ∧ gd < w'.heap.size ∧ RowIn encI 1 3 gd n (List.replicate n (1099511627776 : Int)).toArray w' := by
  refine (repeat_calls B cap 1099511627776 n hn w h).mono ?_
  rintro e w' ⟨gd, rfl, hI⟩
  obtain ⟨cs, h1, h2, h3⟩ := hI.ex
  refine ⟨gd, rfl, hI.below, hI.ge, blk_lt h1, ?_⟩
  refine ⟨cs, h1, by rw [h2, Nat.mul_one], by simp, fun j hj c hc => ?_⟩
  have hjn : j < n := by simpa using hj
  have hc0 : c = 0 := by omega
  subst hc0
  rw [Nat.mul_one, Nat.add_zero, h3 j hjn, getElem!_pos _ j (by simpa using hjn)]
  simp [encI]

/-- What lies there before the sweeper is made. -/
structure FinI (w wr : World) (G gd : Nat) (AS : Option Addr) (cS n : Nat) (l : List Seed) : Prop where
  ring : ∃ cs : Array Value, cs.toList = .int .i64 0 :: .int .i64 0 :: ringZ 256 ∧ wr.heap[G]? = some (.cells cs 139 (0, 0))
  seeds : Kd.C k25 wr AS l.length l
  seedsB : ∀ ad, AS = some ad → G < ad.block ∧ ad.block < gd
  seedsC : l.length ≤ cS
  dist : RowIn encI 1 3 gd n (List.replicate n (1099511627776 : Int)).toArray wr
  lt : w.heap.size ≤ G ∧ G < gd ∧ gd < wr.heap.size
  below : Below w.heap.size w wr

theorem flat_repsI {R : Int → List Value → Prop} (hR : ∀ p, R p (encI p)) : ∀ l : List Int, Reps R 1 l (l.flatMap encI) := by
  intro l
  induction l with
  | nil => exact Reps.none _ _
  | cons x r ih =>
    refine ⟨by have := ih.1; simp [encI] at this ⊢; omega, fun j p hj => ?_⟩
    rcases j with _ | j
    · have : x = p := by simpa using hj
      subst this
      rw [Nat.zero_mul, List.drop_zero, List.flatMap_cons, show List.take 1 (encI x ++ List.flatMap encI r) = encI x by rw [← encI_len x, List.take_left]]
      exact hR x
    · have := ih.2 j p (by simpa using hj)
      rw [List.flatMap_cons, show (j + 1) * 1 = 1 + j * 1 by omega, ← List.drop_drop, show List.drop 1 (encI x ++ List.flatMap encI r) = List.flatMap encI r by rw [← encI_len x, List.drop_left]]
      exact this
theorem rowI_R {w : World} {base B cap : Nat} {l : List Int} (h : RowIn encI 1 3 B cap l.toArray w) (hb : base ≤ B) (hc : cap ≤ maxLen) : Kd.R (Kd.int .i64) 3 w base (fun _ => True) (.slice (some ⟨B, 0, none⟩) l.length cap) l :=
  ⟨fun _ _ => trivial, _, RowIn_ownsRow encI_len h hb hc, by exact flat_repsI (R := (Kd.int .i64).M w base _) (fun p => rfl) l⟩

theorem rd_replicate (n : Nat) (i : Nat) (hi : i < n) : rd (List.replicate n (1099511627776 : Int)) i = INF := by
  rw [rd_get _ (by simpa using hi)]; simp [INF]

theorem grT_sort (W : Int) (C : List Int) (l : List Seed) : grT W C (sortU l) = grT W C l := by
  unfold grT
  congr 1
  funext i k
  exact propext ⟨fun ⟨x, hx, h⟩ => ⟨x, (mem_sortU l x).1 hx, h⟩, fun ⟨x, hx, h⟩ => ⟨x, (mem_sortU l x).2 hx, h⟩⟩
theorem sortU_len (l : List Seed) : (sortU l).length ≤ l.length := by
  have hi : ∀ (x : Seed) (l : List Seed), (insS x l).length ≤ l.length + 1 := by
    intro x l
    induction l with
    | nil => simp [insS]
    | cons y r ih => unfold insS; split <;> (try split) <;> simp <;> omega
  have : ∀ (l acc : List Seed), (l.foldl (fun acc x => insS x acc) acc).length ≤ acc.length + l.length := by
    intro l
    induction l with
    | nil => intro acc; simp
    | cons x r ih => intro acc; have := ih (insS x acc); have := hi x acc; simp only [List.foldl_cons, List.length_cons]; omega
  simpa [sortU] using this l []

theorem FinI.made {w wr : World} {G gd : Nat} {AS : Option Addr} {cS c : Nat} {l : List Seed} {W H : Int} {A : Option Addr} {C : List Int} (h : FinI w wr G gd AS cS C.length l) (hA : Kd.C (Kd.int .u8) w A C.length C) :
    SwM (wr.alloc (.cells #[.int .i64 W, .int .i64 H, .slice A C.length c, .pointer (some ⟨G, 0, none⟩), .slice AS l.length cS, .slice (some ⟨gd, 0, none⟩) C.length C.length] 101)) wr.heap.size G gd (wr.heap.size + 1) W H A c C AS cS l C.length (List.replicate C.length (1099511627776 : Int)) 0 0 0 (fun _ => []) := by
  obtain ⟨cs, hcs, hG⟩ := h.ring
  have hlt := h.lt
  have hal := below_alloc (Below.refl wr.heap.size wr) (.cells #[.int .i64 W, .int .i64 H, .slice A C.length c, .pointer (some ⟨G, 0, none⟩), .slice AS l.length cS, .slice (some ⟨gd, 0, none⟩) C.length C.length] 101)
  have hsz : (wr.alloc (.cells #[.int .i64 W, .int .i64 H, .slice A C.length c, .pointer (some ⟨G, 0, none⟩), .slice AS l.length cS, .slice (some ⟨gd, 0, none⟩) C.length C.length] 101)).heap.size = wr.heap.size + 1 := by simp
  refine ⟨?_, Kd.C_below hA (below_step h.below hal), fun ad e h0 => ?_, Kd.C_below h.seeds hal, fun ad e _ => ?_, h.seedsC, RowIn.heap h.dist (hal.block gd hlt.2.2), by simp, RingM.new (blk_step hG hal) hcs (by omega) (by omega), by omega, by omega, by omega, by omega, by omega⟩
  · rw [List.length_replicate]; exact heap_alloc_new wr _
  · obtain ⟨ad', he, hr⟩ := hA.2.2 h0
    obtain rfl := Option.some.inj (he.symm.trans e)
    have : ad'.block < w.heap.size := by
      obtain ⟨c', e1, e2, e3⟩ := hr 0 _ (List.getElem?_eq_getElem h0)
      have e4 := e3 0 (.int .u8 C[0]) (by rw [show c' = [.int .u8 C[0]] from e2]; rfl)
      have := World.block_lt_of_cell? w _ e4
      simpa [Addr.add] using this
    omega
  · have := h.seedsB ad e
    omega
/-- Before the first step. -/
theorem run_start {W H : Int} {C : List Int} {l : List Seed} (hl : l.length < 5864062014805) (hs : SeedsOk W H C l) : (∀ i k, (grT W C (sortU l)).src i k → i < (grT W C (sortU l)).n ∧ (grT W C (sortU l)).opn i ∧ k ≤ KX) ∧ RunI (grT W C (sortU l)) C.length (sortU l) (List.replicate C.length (1099511627776 : Int)) 0 0 0 (fun _ => []) := by
  have hsrc : ∀ i k, (grT W C (sortU l)).src i k → i < (grT W C (sortU l)).n ∧ (grT W C (sortU l)).opn i ∧ k ≤ KX := by
    rintro i k ⟨x, hx, e0, e2⟩
    obtain ⟨h1, h2, h3, h4, h5, h6⟩ := hs.2 x ((mem_sortU l x).1 hx)
    refine ⟨by show i < C.length; omega, by show rd C i ≠ 255; rw [← e0]; exact h3, by unfold KX; omega⟩
  have hC : C.length ≤ 256 := by
    obtain ⟨a1, a2, a3, a4, a5, a6⟩ := hs.1
    have := mul_small ⟨a1, a2⟩ ⟨a3, a4⟩
    omega
  have hlen := sortU_len l
  have hm : ∀ k i, ¬ memR 0 (fun _ => []) k i := fun k i h => by have := h.2.2; simp at this
  refine ⟨hsrc, ⟨⟨?_, ⟨?_, fun x hx => ?_⟩, fun b _ x hx => by simp at hx, by omega⟩, by omega⟩⟩
  · have hst := Inv.start (g := grT W C (sortU l)) (K := KX) (Mx := MX) (T := todoT (sortU l)) (fun i k => Iff.rfl) hm
    have he : ∀ i, i < (grT W C (sortU l)).n → rd (List.replicate C.length (1099511627776 : Int)) i = INF := fun i hi => rd_replicate _ i hi
    have hk : known (grT W C (sortU l)).inf (fun i => rd (List.replicate C.length (1099511627776 : Int)) i) (grT W C (sortU l)).n = known (grT W C (sortU l)).inf (fun _ => (grT W C (sortU l)).inf) (grT W C (sortU l)).n := known_congr _ (fun i hi => he i hi)
    exact { at0 := Int.le_refl _, dle := fun i hi => by rw [he i hi]; exact Int.le_refl _, set_ := fun i hi h => absurd (he i hi) h, M_ok := fun k i h => absurd h (hm k i), T_ok := hst.T_ok, edge := fun j hj h => absurd (he j hj) h, seed := fun i k h => .inl h, att := fun i hi h => absurd (he i hi) h }
  · refine (rises_sortU l).imp (fun {a b} h => ?_)
    simp only [ltS, decide_eq_true_eq] at h
    omega
  · obtain ⟨h1, h2, h3, h4, h5, h6⟩ := hs.2 x ((mem_sortU l x).1 hx)
    exact ⟨h4, by unfold KX; omega, h1, h2⟩

open Classical in
set_option maxRecDepth 100000 in
set_option maxHeartbeats 2000000 in
theorem spread_calls (a0_0 : Int) (a0_1 : Int) (A0_2 : Option Addr) (c0_2 : Nat) (l0_2 : List Int) (A1 : Option Addr) (c1 : Nat) (l1 : List Seed) (r1 : List Int) (r2 : Int) (w : World) (hr0_2 : Kd.C (Kd.int .u8) w A0_2 l0_2.length l0_2) (hc0_2 : l0_2.length ≤ c0_2) (hr1 : Kd.C k25 w A1 l1.length l1) (hc1 : l1.length ≤ c1) (h : spreadF a0_0 a0_1 l0_2 l1 = some (r1, r2)) :
    Calls Try.prog 43 #[.agg #[.int .i64 a0_0, .int .i64 a0_1, .slice A0_2 l0_2.length c0_2], .slice A1 l1.length c1] w fun e w' => ∃ v0_ : Value, e = .returned (.tuple #[v0_, .int .i64 r2]) ∧ Kd.R (Kd.int .i64) 3 w' w.heap.size (fun _ => True) v0_ r1 ∧ Below w.heap.size w w' := by
  have hM := fun (w1 : World) (hb : Below w.heap.size w w1) => seedsMay_calls a0_0 a0_1 A0_2 c0_2 l0_2 A1 c1 l1 _ w1 (Kd.C_below hr0_2 hb) hc0_2 (Kd.C_below hr1 hb) hc1 rfl
  have HM := Aside0.mk hM
  have HR0 := Aside0.mk hr0_2
  have HC0 := Aside0.mk hc0_2
  have HR1 := Aside0.mk hr1
  have HC1 := Aside0.mk hc1
  clear hM hr0_2 hc0_2 hr1 hc1
  unfold spreadF at h
  by_cases hs : SeedsOk a0_0 a0_1 l0_2 l1
  · rw [if_pos hs] at h
    by_cases hg : (∀ x ∈ l0_2, 0 ≤ x ∧ x ≤ 255) ∧ l1.length < 5864062014805
    · rw [if_pos hg] at h
      obtain ⟨rfl, rfl⟩ := Prod.mk.inj (Option.some.inj h)
      have HD := Aside0.mk (decide_eq_true hs)
      rw [HD.out] at HM
      have HS := Aside0.mk hs
      have HG := Aside0.mk hg
      clear h hs hg
      go_enter Try.func43, Try.ntmps43
      go_wp2_with (first | ((with_reducible refine gate_dst (N := 2) rfl ?_); refine box_event ?hg (N := 2) ?hd (cs := tileCells a0_0 a0_1 A0_2 l0_2.length c0_2) (t := 35) ?hr ?_; (case hd => rfl); (case hg => rfl); (case hr => first | (go_simp; done) | (go_simp; rfl)); intro gb hg w1 hbox hb; have b0 : w1.cell? ⟨gb, 0, none⟩ = _ := cell_blk hbox rfl; have b1 : w1.cell? ⟨gb, 1, none⟩ = _ := cell_blk hbox rfl; have b2 : w1.cell? ⟨gb, 2, none⟩ = _ := cell_blk hbox rfl; have HB1 := Aside0.mk hb; have HX := Aside0.mk hbox; clear hb hbox hg) | (go_at_call 39; refine (HM.out _ HB1.out).mono ?_; rintro e w2 ⟨rfl, hb2⟩; have HB2 := Aside0.mk (below_step HB1.out hb2); have HK := Aside0.mk hb2; clear hb2))
      have p0 := pw_cell_below HK.out b0
      have p1 := pw_cell_below HK.out b1
      have p2 := pw_cell_below HK.out b2
      clear b0 b1 b2
      have hn := HS.out.1.2.2.2.2.1
      have hn1 : 1 ≤ l0_2.length ∧ l0_2.length ≤ 256 := by
        obtain ⟨a1, a2, a3, a4, a5, a6⟩ := HS.out.1
        have := mul_small ⟨a1, a2⟩ ⟨a3, a4⟩
        have h1 : 1 * 1 ≤ a0_0 * a0_1 := Int.mul_le_mul a1 a3 (by omega) (by omega)
        omega
      have HN := Aside0.mk hn1
      clear hn hn1
      go_region_held3 (fun w' => w'.cell? ⟨gb, 0, none⟩ = some (.int .i64 a0_0) ∧ w'.cell? ⟨gb, 1, none⟩ = some (.int .i64 a0_1) ∧ w'.cell? ⟨gb, 2, none⟩ = some (.slice A0_2 l0_2.length c0_2))
        (first | exact ⟨p0, p1, p2⟩ | exact ⟨g0, g1, g2⟩ | exact ⟨s0, s1, s2⟩ | exact ⟨r0, r1, r2⟩ | (refine ⟨?_, ?_, ?_⟩ <;> (refine pw_cell_below (below_alloc (Below.refl _ _) _) ?_) <;> assumption))
        (first
          | (go_at_call 85; refine (new_made _).mono ?_; rintro e wg ⟨G, rfl, hg1, hg2, hg3, cs, hg4, hg5⟩; have g0 := pw_cell_below hg1 (a := ⟨gb, 0, none⟩) (v := .int .i64 a0_0) (by first | exact p0 | exact pw_cell_below (below_alloc (Below.refl _ _) _) p0); have g1 := pw_cell_below hg1 (a := ⟨gb, 1, none⟩) (v := .int .i64 a0_1) (by first | exact p1 | exact pw_cell_below (below_alloc (Below.refl _ _) _) p1); have g2 := pw_cell_below hg1 (a := ⟨gb, 2, none⟩) (v := .slice A0_2 l0_2.length c0_2) (by first | exact p2 | exact pw_cell_below (below_alloc (Below.refl _ _) _) p2);  have HBg : Aside0 (Below w.heap.size w wg) := ⟨below_step (by first | exact below_drew1 HB2.out | exact below_alloc (below_drew1 HB2.out) _) hg1⟩; have HGg : Aside0 (w.heap.size ≤ G ∧ G < wg.heap.size) := ⟨⟨Nat.le_trans (by first | exact (below_drew1 HB2.out).size | exact (below_alloc (below_drew1 HB2.out) _).size) hg2, hg3⟩⟩; have HRg : Aside0 (wg.heap[G]? = some (.cells cs 139 (0, 0))) := ⟨hg5⟩; have HRc := Aside0.mk hg4; have Hg1 := Aside0.mk hg1; clear hg1 hg2 hg3 hg4 hg5)
          | (go_at_call 29; refine (sort_made A1 c1 l1 HG.out.2 _ (Kd.C_below HR1.out (by first | exact HBg.out | exact below_alloc HBg.out _)) HC1.out).mono ?_; rintro e ws ⟨AS, cS, rfl, hs1, hs2, hs3, hs4⟩; have s0 := pw_cell_below hs1 (a := ⟨gb, 0, none⟩) (v := .int .i64 a0_0) (by first | exact g0 | exact pw_cell_below (below_alloc (Below.refl _ _) _) g0); have s1 := pw_cell_below hs1 (a := ⟨gb, 1, none⟩) (v := .int .i64 a0_1) (by first | exact g1 | exact pw_cell_below (below_alloc (Below.refl _ _) _) g1); have s2 := pw_cell_below hs1 (a := ⟨gb, 2, none⟩) (v := .slice A0_2 l0_2.length c0_2) (by first | exact g2 | exact pw_cell_below (below_alloc (Below.refl _ _) _) g2);  have HBs : Aside0 (Below w.heap.size w ws) := ⟨below_step (by first | exact HBg.out | exact below_alloc HBg.out _) hs1⟩; have HSs : Aside0 (∀ ad, AS = some ad → wg.heap.size ≤ ad.block ∧ ad.block < ws.heap.size) := ⟨fun ad he => ⟨Nat.le_trans (by first | exact Nat.le_refl _ | exact (below_alloc (Below.refl _ _) _).size) (hs4 ad he).1, (hs4 ad he).2⟩⟩; have HRs : Aside0 (ws.heap[G]? = some (.cells cs 139 (0, 0))) := ⟨blk_step (by first | exact HRg.out | exact blk_step HRg.out (below_alloc (Below.refl _ _) _)) hs1⟩; have HCs := Aside0.mk hs3; have HLs := Aside0.mk hs2; have HZs : Aside0 (wg.heap.size ≤ ws.heap.size) := ⟨Nat.le_trans (by first | exact Nat.le_refl _ | exact (below_alloc (Below.refl _ _) _).size) hs1.size⟩; have Hs1 := Aside0.mk hs1; clear hs1 hs2 hs3 hs4)
          | (go_at_call 86; refine (rep_made _ _ _ HN.out _ (by first | exact cell_blk (heap_alloc_new _ _) rfl | exact pw_cell_below Hs1.out (cell_blk (heap_alloc_new _ _) rfl) | exact pw_cell_below Hs1.out (pw_cell_below Hg1.out (cell_blk (heap_alloc_new _ _) rfl)))).mono ?_; rintro e wr ⟨gd, rfl, hr1, hr2, hr3, hr4⟩; have r0 := pw_cell_below hr1 (a := ⟨gb, 0, none⟩) (v := .int .i64 a0_0) (by first | exact s0 | exact pw_cell_below (below_alloc (Below.refl _ _) _) s0); have r1 := pw_cell_below hr1 (a := ⟨gb, 1, none⟩) (v := .int .i64 a0_1) (by first | exact s1 | exact pw_cell_below (below_alloc (Below.refl _ _) _) s1); have r2 := pw_cell_below hr1 (a := ⟨gb, 2, none⟩) (v := .slice A0_2 l0_2.length c0_2) (by first | exact s2 | exact pw_cell_below (below_alloc (Below.refl _ _) _) s2);  have HF : Aside0 (FinI w wr G gd AS cS l0_2.length (sortU l1)) := ⟨⟨⟨cs, HRc.out, blk_step (by first | exact HRs.out | exact blk_step HRs.out (below_alloc (Below.refl _ _) _)) hr1⟩, Kd.C_below (by first | exact HCs.out | exact Kd.C_alloc HCs.out _) hr1, fun ad he => ⟨Nat.lt_of_lt_of_le HGg.out.2 (HSs.out ad he).1, Nat.lt_of_lt_of_le (HSs.out ad he).2 (Nat.le_trans (by first | exact Nat.le_refl _ | exact (below_alloc (Below.refl _ _) _).size) hr2)⟩, HLs.out, hr4, ⟨HGg.out.1, Nat.lt_of_lt_of_le HGg.out.2 (Nat.le_trans HZs.out (Nat.le_trans (by first | exact Nat.le_refl _ | exact (below_alloc (Below.refl _ _) _).size) hr2)), hr3⟩, below_step (by first | exact HBs.out | exact below_alloc HBs.out _) hr1⟩⟩; clear hr1 hr2 hr3 hr4))
      all_goals
        have hst := run_start HG.out.2 HS.out
        obtain ⟨q1, q2, q3, q4, q5, q6⟩ := HS.out.1
        have hrun := run_calls ⟨q1, q2⟩ ⟨q3, q4⟩ q5 (costs_pos HG.out.1 HS.out.1 (sortU l1)) hst.1 (HF.out.made (c := c0_2) HR0.out) hst.2
        have HRUN := Aside0.mk hrun
        clear hst q1 q2 q3 q4 q5 q6 hrun p0 p1 p2 g0 g1 g2 s0 s1 s2 r0 r1 r2
        have HSZ := Aside0.mk (HF.out.lt)
        go_wp2_with (go_at_call 87; refine HRUN.out.mono ?_; rintro e we ⟨rfl, a', n', P', B', AS', cS', todo', d', hS, hC, hI⟩; obtain ⟨c0, c1, c2, c3, c4, c5⟩ := hS.cells; have HSE := Aside0.mk hS; have HCE := Aside0.mk hC; have HIE := Aside0.mk hI; clear hS hC hI)
        go_ret2
        have hdl := HSE.out.dlen
        rw [grT_sort] at HIE
        have hd : distOf a0_0 l0_2 l1 = d' := distOf_eq HG.out.1 HS.out.1 ⟨hdl, HIE.out⟩
        have hlt := HSZ.out
        have hN := HN.out
        refine ⟨_, rfl, ?_, ?_⟩
        · rw [hd]
          exact rowI_R HSE.out.dist (by omega) (by unfold maxLen; omega)
        · exact ((Chg.of_below (below_alloc HF.out.below _) (fun k => w.heap.size ≤ k)).then_ HCE.out (fun k hk => .inl (by rcases hk with h | h | h | h <;> omega))).below (fun k hk => hk) (Nat.le_refl _)
    · rw [if_neg hg] at h
      exact absurd h (by simp)
  · rw [if_neg hs] at h
    obtain ⟨rfl, rfl⟩ := Prod.mk.inj (Option.some.inj h)
    have HD := Aside0.mk (decide_eq_false hs)
    rw [HD.out] at HM
    clear h hs
    go_enter Try.func43, Try.ntmps43
    go_wp2_with (first | ((with_reducible refine gate_dst (N := 2) rfl ?_); refine box_event ?hg (N := 2) ?hd (cs := tileCells a0_0 a0_1 A0_2 l0_2.length c0_2) (t := 35) ?hr ?_; (case hd => rfl); (case hg => rfl); (case hr => first | (go_simp; done) | (go_simp; rfl)); intro gb hg w1 hbox hb; have b0 : w1.cell? ⟨gb, 0, none⟩ = _ := cell_blk hbox rfl; have b1 : w1.cell? ⟨gb, 1, none⟩ = _ := cell_blk hbox rfl; have b2 : w1.cell? ⟨gb, 2, none⟩ = _ := cell_blk hbox rfl; have HB1 := Aside0.mk hb; have HX := Aside0.mk hbox; clear hb hbox hg) | (go_at_call 39; refine (HM.out _ HB1.out).mono ?_; rintro e w2 ⟨rfl, hb2⟩; have HB2 := Aside0.mk (below_step HB1.out hb2); have HK := Aside0.mk hb2; clear hb2))
    go_ret2
    exact ⟨_, rfl, Kd.R_nil _ _ _ _ _, HB2.out⟩
end Go.Proofs.Ytgcfcemgeppkmaa.P
