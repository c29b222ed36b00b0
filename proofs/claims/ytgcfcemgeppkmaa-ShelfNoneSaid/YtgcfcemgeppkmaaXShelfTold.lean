/-
  shelf.New, shelf.Keys, shelf.Count, shelf.Flush; Get where it refuses. The laws of layer 19: what they all end with. herdsmanlaw19.ShelfNone: what is none does nothing.
-/
import Derived.Test.YtgcfcemgeppkmaaXShelfGet
import Derived.Test.YtgcfcemgeppkmaaXMayA
namespace Go.Proofs.Ytgcfcemgeppkmaa.P
open Go.RowKit Go.Proofs.YtgcfcemgeppkmaaW.PrintWords Go.Proofs.YtgcfcemgeppkmaaW.PrintLast Go.Proofs.YtgcfcemgeppkmaaW.PrintMore
open Go.Proofs.Ytgcfcemgeppkmaa.Ord Go.Proofs.Ytgcfcemgeppkmaa.Dist
set_option linter.unusedVariables false
set_option linter.unusedSimpArgs false
variable {w w' : World} {own : Nat → Prop} {fv : Value} {kvs : List Kv} {kps : List Kept} {sb lb mb : Nat} {k : Int} {sv : Value} {seats : List Seat} {nw od : Int} {D : DataW Unit} {ord : List Nat} {c : Cnt}
def cnt0 : Cnt := ⟨0, 0, 0, 0, 0, 0⟩
/-- A shelf that keeps nothing. -/
def Shelf0 (w : World) (own : Nat → Prop) (sb lb : Nat) (k : Int) (mb : Nat) (c : Cnt) : Prop := ShelfM w own sb lb k (.slice none 0 0) mb [] (-1) (-1) (.map []) [] (.slice none 0 0) [] [] c
set_option maxRecDepth 100000 in
set_option maxHeartbeats 2000000 in
theorem newS_calls (k : Int) (hk : 1 ≤ k) (w : World) :
    Calls Try.prog 64 #[.int .i64 k] w fun e w' => ∃ sb lb mb, e = .returned (.pointer (some ⟨sb, 0, none⟩)) ∧ Shelf0 w' (fun b => w.heap.size ≤ b ∧ b < w'.heap.size) sb lb k mb cnt0 ∧ Below w.heap.size w w' := by
  have d1 : decide (k < 1) = false := decide_eq_false (by omega)
  go_enter Try.func64, Try.ntmps64
  go_wp2_with (first
    | (go_at_call 97; refine (new_calls k hk _).mono ?_; rintro e w1 ⟨lb, mb, hlb, rfl, hok, hb⟩; have HOK := Aside0.mk hok; have HB1 := Aside0.mk hb; have HLB := Aside0.mk hlb; clear hok hb hlb)
    | ((with_reducible refine gate_dst (N := 8) rfl ?_); refine box_event ?hg (N := 8) ?hd (cs := #[.pointer (some ⟨lb, 0, none⟩), .slice none 0 0, .int .u64 0, .int .u64 0, .int .u64 0, .int .u64 0, .int .u64 0, .int .u64 0]) (t := 116) ?hr ?_; (case hd => rfl); (case hg => rfl); (case hr => first | (go_simp; done) | (go_simp; rfl)); intro sb hg w2 hbox hb; have HB2 := Aside0.mk hb; have HX := Aside0.mk hbox; have HG := Aside0.mk hg; clear hb hbox hg))
  go_ret
  have hok2 := HOK.out.below HB2.out
  have hs1 := HB1.out.size
  have hs2 := HB2.out.size
  refine ⟨sb, lb, mb, rfl, ⟨HX.out, ?_, .inl ⟨rfl, rfl⟩, rfl, fun i hi => absurd hi (by simp), ⟨by rw [HG.out]; exact hs1, blk_lt HX.out⟩, ?_, fun b hb => by simp [Value.ownBlock] at hb⟩, below_step HB1.out HB2.out⟩
  · exact { hok2 with m := { hok2.m with seats := .inl ⟨rfl, rfl⟩, lbB := Nat.zero_le _, mbB := Nat.zero_le _ } }
  · rintro b (rfl | rfl | hb)
    · exact ⟨HOK.out.m.lbB, blk_lt hok2.m.blk⟩
    · exact ⟨HOK.out.m.mbB, hok2.m.map.lt⟩
    · simp [Value.ownBlock] at hb
set_option maxHeartbeats 2000000 in
theorem newS_none (k : Int) (hk : k < 1) (w : World) : Calls Try.prog 64 #[.int .i64 k] w fun e w' => e = .returned (.pointer none) ∧ w' = w := by
  have d1 : decide (k < 1) = true := decide_eq_true hk
  go_enter Try.func64, Try.ntmps64
  go_wp2
  go_ret
  exact ⟨rfl, rfl⟩
set_option maxRecDepth 100000 in
set_option maxHeartbeats 2000000 in
theorem keysS_calls (h : ShelfM w own sb lb k sv mb seats nw od D ord fv kvs kps c) (hsm : seats.length ≤ 1000000) :
    Calls Try.prog 71 #[.pointer (some ⟨sb, 0, none⟩)] w fun e w' => ∃ v, e = .returned v ∧ Kd.R kKey 86 w' w.heap.size (fun _ => True) v (ord.map (keyF seats)) ∧ Below w.heap.size w w' := by
  have hp := cell_blk (j := 0) (u := .pointer (some ⟨lb, 0, none⟩)) h.blk rfl
  have HL := Aside0.mk h.lru
  clear h
  go_enter Try.func71, Try.ntmps71
  go_wp2_with (go_at_call 103; refine (keys_calls HL.out hsm).mono ?_; rintro e w1 ⟨v, rfl, ho, hb⟩; have HO := Aside0.mk ho; have HB := Aside0.mk hb; clear ho hb)
  go_ret
  exact ⟨v, rfl, HO.out, HB.out⟩
set_option maxHeartbeats 2000000 in
theorem keysS_nil (w : World) : Calls Try.prog 71 #[.pointer none] w fun e w' => e = .returned (.slice none 0 0) ∧ w' = w := by
  go_enter Try.func71, Try.ntmps71
  go_wp2
  go_ret
  exact ⟨rfl, rfl⟩
set_option maxHeartbeats 2000000 in
theorem flushS_nil (w : World) : Calls Try.prog 68 #[.pointer none] w fun e w' => e = .returned (.tuple #[]) ∧ w' = w := by
  go_enter Try.func68, Try.ntmps68
  go_wp2
  go_end0
  exact ⟨rfl, rfl⟩
def cntV (c : Cnt) : Value := .agg #[.int .u64 c.re, .int .u64 c.se, .int .u64 c.bu, .int .u64 c.hi, .int .u64 c.st, .int .u64 c.ev]
set_option maxRecDepth 100000 in
set_option maxHeartbeats 2000000 in
theorem countS_calls (h : ShelfM w own sb lb k sv mb seats nw od D ord fv kvs kps c) :
    Calls Try.prog 67 #[.pointer (some ⟨sb, 0, none⟩)] w fun e w' => e = .returned (cntV c) ∧ Below w.heap.size w w' := by
  have hb0 := h.blk
  have HB0 := Aside0.mk hb0
  clear h hb0
  go_enter Try.func67, Try.ntmps67
  go_wp2_with ((with_reducible refine gate_dst (N := 2) rfl ?_); refine box_event ?hg (N := 2) ?hd (cs := #[.int .u64 0, .int .u64 0, .int .u64 0, .int .u64 0, .int .u64 0, .int .u64 0]) (t := 77) ?hr ?_; (case hd => rfl); (case hg => rfl); (case hr => first | (go_simp; done) | (go_simp; rfl)); intro g2 hg w2 hbox hb; have hb2 := (hb.block sb (blk_lt HB0.out)).trans HB0.out; have k2 := cell_blk (j := 2) (u := .int .u64 c.re) hb2 rfl; have k3 := cell_blk (j := 3) (u := .int .u64 c.se) hb2 rfl; have k4 := cell_blk (j := 4) (u := .int .u64 c.bu) hb2 rfl; have k5 := cell_blk (j := 5) (u := .int .u64 c.hi) hb2 rfl; have k6 := cell_blk (j := 6) (u := .int .u64 c.st) hb2 rfl; have k7 := cell_blk (j := 7) (u := .int .u64 c.ev) hb2 rfl; have z0 := cell_blk (j := 0) (u := .int .u64 0) hbox rfl; have z1 := cell_blk (j := 1) (u := .int .u64 0) hbox rfl; have z2 := cell_blk (j := 2) (u := .int .u64 0) hbox rfl; have z3 := cell_blk (j := 3) (u := .int .u64 0) hbox rfl; have z4 := cell_blk (j := 4) (u := .int .u64 0) hbox rfl; have z5 := cell_blk (j := 5) (u := .int .u64 0) hbox rfl; have f0 := free_blk hbox 0; have f1 := free_blk hbox 1; have f2 := free_blk hbox 2; have f3 := free_blk hbox 3; have f4 := free_blk hbox 4; have f5 := free_blk hbox 5; have HX := Aside0.mk hbox; have HB := Aside0.mk hb; have HG := Aside0.mk hg; clear hbox hb hg hb2)
  have hx9 := set_blk (set_blk (set_blk (set_blk (set_blk (set_blk HX.out 0 (.int .u64 c.re)) 1 (.int .u64 c.se)) 2 (.int .u64 c.bu)) 3 (.int .u64 c.hi)) 4 (.int .u64 c.st)) 5 (.int .u64 c.ev)
  (try simp only [Exit.inBlock, Exit.then])
  refine bodyPost_ret (results_cell_row rfl _ _ g2 77 #[.int .u64 c.re, .int .u64 c.se, .int .u64 c.bu, .int .u64 c.hi, .int .u64 c.st, .int .u64 c.ev] (0, 0) _ rfl hx9 Try.underlying77 rfl (by kernel_rfl)) rfl ?_
  have hg : w.heap.size ≤ g2 := by rw [HG.out]; exact Nat.le_refl _
  exact ⟨rfl, (((((((Chg.of_below HB.out (fun b => w.heap.size ≤ b)).set_ (p := ⟨g2, 0, none⟩) (.inl hg) _).set_ (p := ⟨g2, 1, none⟩) (.inl hg) _).set_ (p := ⟨g2, 2, none⟩) (.inl hg) _).set_ (p := ⟨g2, 3, none⟩) (.inl hg) _).set_ (p := ⟨g2, 4, none⟩) (.inl hg) _).set_ (p := ⟨g2, 5, none⟩) (.inl hg) _).below (fun k hk => hk) (Nat.le_refl _)⟩
set_option maxRecDepth 100000 in
set_option maxHeartbeats 2000000 in
theorem countS_nil (w : World) : Calls Try.prog 67 #[.pointer none] w fun e w' => e = .returned (cntV cnt0) ∧ Below w.heap.size w w' := by
  go_enter Try.func67, Try.ntmps67
  go_wp2_with ((with_reducible refine gate_dst (N := 2) rfl ?_); refine box_event ?hg (N := 2) ?hd (cs := #[.int .u64 0, .int .u64 0, .int .u64 0, .int .u64 0, .int .u64 0, .int .u64 0]) (t := 77) ?hr ?_; (case hd => rfl); (case hg => rfl); (case hr => first | (go_simp; done) | (go_simp; rfl)); intro g2 hg w2 hbox hb; have z0 := cell_blk (j := 0) (u := .int .u64 0) hbox rfl; have z1 := cell_blk (j := 1) (u := .int .u64 0) hbox rfl; have z2 := cell_blk (j := 2) (u := .int .u64 0) hbox rfl; have z3 := cell_blk (j := 3) (u := .int .u64 0) hbox rfl; have z4 := cell_blk (j := 4) (u := .int .u64 0) hbox rfl; have z5 := cell_blk (j := 5) (u := .int .u64 0) hbox rfl; have f0 := free_blk hbox 0; have f1 := free_blk hbox 1; have f2 := free_blk hbox 2; have f3 := free_blk hbox 3; have f4 := free_blk hbox 4; have f5 := free_blk hbox 5; have HX := Aside0.mk hbox; have HB := Aside0.mk hb; have HG := Aside0.mk hg; clear hbox hb hg)
  have hx9 := set_blk (set_blk (set_blk (set_blk (set_blk (set_blk HX.out 0 (.int .u64 0)) 1 (.int .u64 0)) 2 (.int .u64 0)) 3 (.int .u64 0)) 4 (.int .u64 0)) 5 (.int .u64 0)
  (try simp only [Exit.inBlock, Exit.then])
  refine bodyPost_ret (results_cell_row rfl _ _ g2 77 #[.int .u64 0, .int .u64 0, .int .u64 0, .int .u64 0, .int .u64 0, .int .u64 0] (0, 0) _ rfl hx9 Try.underlying77 rfl (by kernel_rfl)) rfl ?_
  have hg : w.heap.size ≤ g2 := by rw [HG.out]; exact Nat.le_refl _
  exact ⟨rfl, (((((((Chg.of_below HB.out (fun b => w.heap.size ≤ b)).set_ (p := ⟨g2, 0, none⟩) (.inl hg) _).set_ (p := ⟨g2, 1, none⟩) (.inl hg) _).set_ (p := ⟨g2, 2, none⟩) (.inl hg) _).set_ (p := ⟨g2, 3, none⟩) (.inl hg) _).set_ (p := ⟨g2, 4, none⟩) (.inl hg) _).set_ (p := ⟨g2, 5, none⟩) (.inl hg) _).below (fun k hk => hk) (Nat.le_refl _)⟩
set_option maxRecDepth 100000 in
set_option maxHeartbeats 2000000 in
theorem get_nil (w : World) (a b ver W H : Int) (At : Option Addr) (n ct : Nat) (As : Option Addr) (m cs : Nat) :
    Calls Try.prog 65 #[.pointer none, .int .i64 a, .int .i64 b, .int .i64 ver, .agg #[.int .i64 W, .int .i64 H, .slice At n ct], .slice As m cs] w fun e w' => e = .returned (.tuple #[.agg #[.slice none 0 0, .slice none 0 0], .int .i64 1]) ∧ Below w.heap.size w w' := by
  go_enter Try.func65, Try.ntmps65
  go_wp2_with (first
    | ((with_reducible refine gate_dst (N := 10) rfl ?_); refine box_event ?hg (N := 10) ?hd (cs := #[.int .i64 W, .int .i64 H, .slice At n ct]) (t := 35) ?hr ?_; (case hd => rfl); (case hg => rfl); (case hr => first | (go_simp; done) | (go_simp; rfl)); intro g1 hg w1 hbox hb; have HB1 := Aside0.mk hb; clear hbox hb hg)
    | ((with_reducible refine gate_dst (N := 12) rfl ?_); refine box_event ?hg (N := 12) ?hd (cs := #[.slice none 0 0, .slice none 0 0]) (t := 60) ?hr ?_; (case hd => rfl); (case hg => rfl); (case hr => first | (go_simp; done) | (go_simp; rfl)); intro g2 hg w2 hbox hb; have HX2 := Aside0.mk hbox; have HB2 := Aside0.mk hb; have HG2 := Aside0.mk hg; have z0 := cell_blk (j := 0) (u := .slice none 0 0) hbox rfl; have z1 := cell_blk (j := 1) (u := .slice none 0 0) hbox rfl; have f0 := free_blk hbox 0; have f1 := free_blk hbox 1; clear hbox hb hg))
  (try simp only [Exit.inBlock, Exit.then])
  have hx9 := set_blk (set_blk HX2.out 0 (.slice none 0 0)) 1 (.slice none 0 0)
  refine bodyPost_ret (results_ct rfl _ _ g2 60 #[.slice none 0 0, .slice none 0 0] (0, 0) _ rfl hx9 Try.underlying60 rfl (by kernel_rfl)) rfl ?_
  have hg : w.heap.size ≤ g2 := by rw [HG2.out]; exact HB1.out.size
  exact ⟨rfl, (((Chg.of_below (below_step HB1.out HB2.out) (fun b => w.heap.size ≤ b)).set_ (p := ⟨g2, 0, none⟩) (.inl hg) _).set_ (p := ⟨g2, 1, none⟩) (.inl hg) _).below (fun k hk => hk) (Nat.le_refl _)⟩
set_option maxRecDepth 100000 in
set_option maxHeartbeats 2000000 in
theorem get_no (sb : Nat) (w : World) (a b ver : Int) {W H : Int} {At : Option Addr} {ct : Nat} {C : List Int} {As : Option Addr} {cs : Nat} {s : List Seed} (hA : Handed3 w own At ct C As cs s) (hok : ¬ SeedsOk W H C s) :
    Calls Try.prog 65 #[.pointer (some ⟨sb, 0, none⟩), .int .i64 a, .int .i64 b, .int .i64 ver, .agg #[.int .i64 W, .int .i64 H, .slice At C.length ct], .slice As s.length cs] w fun e w' => e = .returned (.tuple #[.agg #[.slice none 0 0, .slice none 0 0], .int .i64 1]) ∧ Below w.heap.size w w' := by
  have hmay : seedsMayF W H C s = some false := by unfold seedsMayF; simp [hok]
  have HMAY := Aside0.mk hmay
  have HA := Aside0.mk hA
  clear hA hok hmay
  go_enter Try.func65, Try.ntmps65
  go_wp2_with (first
    | ((with_reducible refine gate_dst (N := 10) rfl ?_); refine box_event ?hg (N := 10) ?hd (cs := #[.int .i64 W, .int .i64 H, .slice At C.length ct]) (t := 35) ?hr ?_; (case hd => rfl); (case hg => rfl); (case hr => first | (go_simp; done) | (go_simp; rfl)); intro g1 hg w1 hbox hb; have HB1 := Aside0.mk hb; have HX1 := Aside0.mk hbox; clear hbox hb hg)
    | ((with_reducible refine gate_dst (N := 12) rfl ?_); refine box_event ?hg (N := 12) ?hd (cs := #[.slice none 0 0, .slice none 0 0]) (t := 60) ?hr ?_; (case hd => rfl); (case hg => rfl); (case hr => first | (go_simp; done) | (go_simp; rfl)); intro g2 hg w2 hbox hb; have HX2 := Aside0.mk hbox; have HB2 := Aside0.mk hb; have HG2 := Aside0.mk hg; have hb12 := (hb.block g1 (blk_lt HX1.out)).trans HX1.out; have t0 := cell_blk (j := 0) (u := .int .i64 W) hb12 rfl; have t1 := cell_blk (j := 1) (u := .int .i64 H) hb12 rfl; have t2 := cell_blk (j := 2) (u := .slice At C.length ct) hb12 rfl; have HB := Aside0.mk (below_step HB1.out hb); clear hbox hb hg hb12)
    | (go_at_call 39; refine (seedsMay_calls W H At ct C As cs s false _ (Kd.C_below HA.out.tile HB.out) HA.out.tcap (Kd.C_below HA.out.seeds HB.out) HA.out.scap HMAY.out).mono ?_; rintro e w3 ⟨rfl, hb⟩; have HB3 := Aside0.mk hb; have hx3 := (hb.block g2 (blk_lt HX2.out)).trans HX2.out; have HX3 := Aside0.mk hx3; have z0 := cell_blk (j := 0) (u := .slice none 0 0) hx3 rfl; have z1 := cell_blk (j := 1) (u := .slice none 0 0) hx3 rfl; have f0 := free_blk hx3 0; have f1 := free_blk hx3 1; clear hb hx3))
  (try simp only [Exit.inBlock, Exit.then])
  have hx9 := set_blk (set_blk HX3.out 0 (.slice none 0 0)) 1 (.slice none 0 0)
  refine bodyPost_ret (results_ct rfl _ _ g2 60 #[.slice none 0 0, .slice none 0 0] (0, 0) _ rfl hx9 Try.underlying60 rfl (by kernel_rfl)) rfl ?_
  have hg : w.heap.size ≤ g2 := by rw [HG2.out]; exact HB1.out.size
  exact ⟨rfl, (((Chg.of_below (below_step HB.out HB3.out) (fun b => w.heap.size ≤ b)).set_ (p := ⟨g2, 0, none⟩) (.inl hg) _).set_ (p := ⟨g2, 1, none⟩) (.inl hg) _).below (fun k hk => hk) (Nat.le_refl _)⟩
end Go.Proofs.Ytgcfcemgeppkmaa.P
namespace Go.Proofs.Ytgcfcemgeppkmaa.P
open Go.RowKit Go.Proofs.YtgcfcemgeppkmaaW.PrintWords Go.Proofs.YtgcfcemgeppkmaaW.PrintLast Go.Proofs.YtgcfcemgeppkmaaW.PrintMore
open Go.Proofs.Ytgcfcemgeppkmaa.Ord Go.Proofs.Ytgcfcemgeppkmaa.Dist
set_option linter.unusedVariables false
set_option linter.unusedSimpArgs false
theorem told19_ok : SeedsOk 2 1 [1, 1] [⟨0, 4, 0⟩] := by
  refine ⟨by unfold TileOk; decide, fun x hx => ?_⟩
  obtain rfl : x = ⟨0, 4, 0⟩ := by simpa using hx
  unfold SeedOk OutOk rd
  simp
theorem told19_dist : distOf 2 [1, 1] [⟨0, 4, 0⟩] = [0, 1] := by
  have hb : ∀ x ∈ ([1, 1] : List Int), 0 ≤ x ∧ x ≤ 255 := by simp
  refine distOf_eq hb told19_ok.1 ⟨rfl, fun i hi => ?_, fun i hi => ?_⟩
  · have h3 : i < 2 := hi
    refine ⟨?_, fun _ => ⟨?_, fun j hj had ho => ?_⟩⟩
    · rcases (show i = 0 ∨ i = 1 by omega) with rfl | rfl <;> simp [rd, grT, INF]
    · rintro k ⟨x, hx, e0, e2⟩
      obtain rfl : x = ⟨0, 4, 0⟩ := by simpa using hx
      have : i = 0 := by have : (0 : Int) = (i : Int) := e0; omega
      subst this
      have : (0 : Int) = k := e2
      subst this
      simp [rd]
    · have hj3 : j < 2 := hj
      have had' : AdjT 2 i j := had
      unfold AdjT at had'
      rcases (show i = 0 ∨ i = 1 by omega) with rfl | rfl <;> rcases (show j = 0 ∨ j = 1 by omega) with rfl | rfl <;> simp [rd, grT] <;> simp at had'
  · have h3 : i < 2 := hi
    rcases (show i = 0 ∨ i = 1 by omega) with rfl | rfl
    · exact ⟨by simp [rd], .inr ⟨by simp [grT, rd], .inl ⟨⟨0, 4, 0⟩, by simp, rfl, by simp [rd]⟩⟩⟩
    · refine ⟨by simp [rd], .inr ⟨by simp [grT, rd], .inr ⟨0, by simp [grT], ?_, by simp [grT, rd], by simp [grT, rd]⟩⟩⟩
      show AdjT 2 _ _
      unfold AdjT
      simp
theorem R_base {α : Type} {d : Kd α} {e base n c : Nat} {ok : Nat → Prop} {w : World} {A : Option Addr} {xs : List α} (h : d.R e w base ok (.slice A n c) xs) : ∀ ad, A = some ad → base ≤ ad.block ∧ ad.block < w.heap.size := by
  rintro ad rfl
  obtain ⟨g, rfl⟩ := Kd.R_head h
  have := (Kd.R_bound h).1 g (by simp [Value.ownBlock])
  exact ⟨this.2.1, this.2.2.1⟩
/-- Rows of the call's own are handed in. -/
theorem Handed3.of_rows {w : World} {own : Nat → Prop} {bt bs : Nat} {At : Option Addr} {ct : Nat} {C : List Int} {As : Option Addr} {cs : Nat} {s : List Seed} {okt oks : Nat → Prop} (ht : Kd.R (Kd.int .u8) 5 w bt okt (.slice At C.length ct) C) (hs : RowS w bs oks (.slice As s.length cs) s) (ho : ∀ b, own b → b < w.heap.size → (bt ≤ b → okt b → False) ∧ (bs ≤ b → oks b → False)) (hb : ∀ x ∈ C, 0 ≤ x ∧ x ≤ 255) (hl : C.length ≤ 1000 ∧ s.length ≤ 1000) : Handed3 w own At ct C As cs s where
  tile := (R_C ht).1
  tcap := (R_C ht).2
  seeds := (R_C hs).1
  scap := (R_C hs).2
  farT ad e _ h := by
    have h1 := R_base ht ad e
    subst e
    obtain ⟨g, rfl⟩ := Kd.R_head ht
    exact (ho _ h h1.2).1 h1.1 (ht.1 g (by simp [Value.ownBlock]))
  farS ad e _ h := by
    have h1 := R_base hs ad e
    subst e
    obtain ⟨g, rfl⟩ := Kd.R_head hs
    exact (ho _ h h1.2).2 h1.1 (hs.1 g (by simp [Value.ownBlock]))
  bytes := hb
  tlen := hl.1
  slen := hl.2
/-- The first Get of a shelf that keeps nothing: built. -/
theorem GotS.first {k : Int} {ks : Nat → Int × Int} {c : Cnt} {a b ver : Int} {s : List Seed} {Dst Drs : List Int} {n' : Nat} {ks' : Nat → Int × Int} {ord' : List Nat} {kps' : List Kept} {c' : Cnt} {dist dirs : List Int} {slot : Nat} {had out : Bool} (h : GotS 0 k ks [] [] c a b ver s Dst Drs n' ks' ord' kps' c' dist dirs slot had out) (hk : 1 ≤ k) :
    dist = Dst ∧ dirs = Drs ∧ n' = 1 ∧ ks' 0 = (a, b) ∧ ord' = [0] ∧ kps'.getD 0 default = ⟨ver, s, Dst, Drs⟩ ∧ c' = { c with bu := c.bu + 1 } := by
  cases had with
  | true => have := (h.used.hit rfl).1; omega
  | false =>
    obtain ⟨hs, ho, hn, hor⟩ := h.used.fresh rfl (by omega)
    obtain ⟨b1, b2, b3, b4, b5⟩ := h.build (fun e => by simp at e)
    subst hs
    refine ⟨b1, b2, hn, by rw [(h.used.miss rfl).2]; simp, hor, b3, ?_⟩
    rw [b5, ho]
    simp
/-- The same again: a hit. -/
theorem GotS.again {k : Int} {ks : Nat → Int × Int} {ord : List Nat} {kps : List Kept} {c : Cnt} {a b ver : Int} {s : List Seed} {Dst Drs D1 D2 : List Int} {n' : Nat} {ks' : Nat → Int × Int} {ord' : List Nat} {kps' : List Kept} {c' : Cnt} {dist dirs : List Int} {slot : Nat} {had out : Bool} (h : GotS 1 k ks ord kps c a b ver s Dst Drs n' ks' ord' kps' c' dist dirs slot had out) (hk : ks 0 = (a, b)) (hy : kps.getD 0 default = ⟨ver, s, D1, D2⟩) :
    dist = D1 ∧ dirs = D2 ∧ n' = 1 ∧ c' = { c with hi := c.hi + 1 } := by
  cases had with
  | false => exact absurd hk ((h.used.miss rfl).1 0 (by omega))
  | true =>
    obtain ⟨hs, _, _, hn, _⟩ := h.used.hit rfl
    obtain rfl : slot = 0 := by omega
    obtain ⟨b1, b2, _, b4⟩ := h.hit rfl (by rw [hy]) (by rw [hy])
    rw [hy] at b1 b2
    exact ⟨b1, b2, hn, b4⟩
end Go.Proofs.Ytgcfcemgeppkmaa.P
namespace Go.Proofs.Ytgcfcemgeppkmaa.P
open Go.RowKit Go.Proofs.YtgcfcemgeppkmaaW.PrintWords Go.Proofs.YtgcfcemgeppkmaaW.PrintLast Go.Proofs.YtgcfcemgeppkmaaW.PrintMore
open Go.Proofs.Ytgcfcemgeppkmaa.Ord Go.Proofs.Ytgcfcemgeppkmaa.Dist
open Go.Lib
set_option linter.unusedVariables false
set_option linter.unusedSimpArgs false
theorem eqStats (d : Nat) (w : World) (x0 y0 x1 y1 x2 y2 x3 y3 x4 y4 x5 y5 : Int) :
    (Op.equalIn (d + 2) 77 (.agg #[.int .u64 x0, .int .u64 x1, .int .u64 x2, .int .u64 x3, .int .u64 x4, .int .u64 x5]) (.agg #[.int .u64 y0, .int .u64 y1, .int .u64 y2, .int .u64 y3, .int .u64 y4, .int .u64 y5])).run Try.prog w = .ok (x0 == y0 && (x1 == y1 && (x2 == y2 && (x3 == y3 && (x4 == y4 && x5 == y5))))) w := by
  refine eqA_of Try.underlying77 (by kernel_rfl) ?_
  refine eqf_cons (by rfl) (by go_simp; rfl) (by go_simp; rfl) (by go_simp) ?_
  refine eqf_cons (by rfl) (by go_simp; rfl) (by go_simp; rfl) (by go_simp) ?_
  refine eqf_cons (by rfl) (by go_simp; rfl) (by go_simp; rfl) (by go_simp) ?_
  refine eqf_cons (by rfl) (by go_simp; rfl) (by go_simp; rfl) (by go_simp) ?_
  refine eqf_cons (by rfl) (by go_simp; rfl) (by go_simp; rfl) (by go_simp) ?_
  exact eqf_last (by rfl) (by go_simp; rfl) (by go_simp; rfl) (by go_simp)
attribute [local go_sem high] eqStats
theorem lit2_C (w : World) (a b : Int) (t : TypeId) : Kd.C (Kd.int .i64) (w.alloc (.cells #[.int .i64 a, .int .i64 b] t)) (some ⟨w.heap.size, 0, none⟩) ([a, b] : List Int).length [a, b] := by
  have hb := heap_alloc_new w (.cells #[.int .i64 a, .int .i64 b] t)
  refine ⟨rfl, by simp, fun _ => ⟨_, rfl, fun j p hj => ?_⟩⟩
  match j with
  | 0 =>
    obtain rfl : a = p := by simpa using hj
    refine ⟨[.int .i64 a], rfl, rfl, fun i u hu => ?_⟩
    obtain ⟨rfl, rfl⟩ : i = 0 ∧ .int .i64 a = u := by cases i <;> simp_all
    exact cell_blk hb rfl
  | 1 =>
    obtain rfl : b = p := by simpa using hj
    refine ⟨[.int .i64 b], rfl, rfl, fun i u hu => ?_⟩
    obtain ⟨rfl, rfl⟩ : i = 0 ∧ .int .i64 b = u := by cases i <;> simp_all
    exact cell_blk hb rfl
  | j + 2 => simp at hj
theorem ints2_calls (B : Option Addr) (m : Nat) (a b : Int) (wx : World) (h0 : Kd.C (Kd.int .i64) wx B 2 [a, b]) (hm : 2 ≤ m) : Calls Try.prog 51 #[.slice B 2 m, .slice (some ⟨wx.heap.size, 0, none⟩) 2 2] (wx.alloc (.cells #[.int .i64 a, .int .i64 b] 3)) fun e w' => e = .returned (.bool true) ∧ Below (wx.alloc (.cells #[.int .i64 a, .int .i64 b] 3)).heap.size (wx.alloc (.cells #[.int .i64 a, .int .i64 b] 3)) w' :=
  (herdsmanref1_Ints.calls 10 B m [a, b] _ 2 [a, b] true _ (Kd.C_below h0 (below_alloc (Below.refl _ _) _)) hm (lit2_C _ _ _ _) (Nat.le_refl _) (ints_self _ (by simp) 10 (by simp))).mono (fun _ _ ⟨he, hd⟩ => ⟨he, hd.below⟩)
set_option maxRecDepth 100000 in
set_option maxHeartbeats 4000000 in
theorem told19_calls (w : World) : Calls Try.prog 66 #[] w fun e w' => e = .returned (.bool true) ∧ Below w.heap.size w w' := by
  go_enter Try.func66, Try.ntmps66
  go_upto_region 3 with (first
    | (go_at_call 64; refine (newS_calls 1 (by omega) w).mono ?_; rintro e w1 ⟨sb, lb, mb, rfl, hs, hb⟩; have HS1 := Aside0.mk hs; have HB1 := Aside0.mk hb; clear hs hb)
    | ((with_reducible refine gate_dst (N := 7) rfl ?_); refine Kd.R_lit (Kd.int .u8) w1.heap.size 5 ?hg (N := 7) ?hd (xs := ([1, 1] : List Int)) (inner := [.int .u8 1, .int .u8 1]) (ok := fun _ => True) (okp := fun _ => True) ?hr ?hp (fun _ hk => hk) trivial (Below.refl _ _) (Nat.le_refl _) (by simp) ?_; (case hd => rfl); (case hg => rfl); (case hr => first | (go_simp; done) | (go_simp; rfl)); (case hp => exact (Reps.one (show Kd.M (Kd.int .u8) _ _ _ 1 [.int .u8 1] from rfl) (Reps.one (show Kd.M (Kd.int .u8) _ _ _ 1 [.int .u8 1] from rfl) (Reps.none _ _)))); intro v2 w2 ho hb _ _; obtain ⟨A6, n6, rfl⟩ := Kd.R_slice ho; have HB2 := Aside0.mk hb; have HO2 := Aside0.mk ho; clear ho hb)
    | ((with_reducible refine gate_dst (N := 2) rfl ?_); refine box_event ?hg (N := 2) ?hd (cs := #[.int .i64 0, .int .i64 0, .slice none 0 0]) (t := 35) ?hr ?_; (case hd => rfl); (case hg => rfl); (case hr => first | (go_simp; done) | (go_simp; rfl)); intro gt hg w3 hbox hb; have HGT : Aside0 (w1.heap.size ≤ gt) := ⟨by rw [hg]; exact HB2.out.size⟩; have z0 : w3.cell? ⟨gt, 0, none⟩ = _ := cell_blk hbox rfl; have z1 : w3.cell? ⟨gt, 1, none⟩ = _ := cell_blk hbox rfl; have z2 : w3.cell? ⟨gt, 2, none⟩ = _ := cell_blk hbox rfl; have f0 := free_blk hbox 0; have f1 := free_blk hbox 1; have f2 := free_blk hbox 2; have HX3 := Aside0.mk hbox; have HG3 : Aside0 (w2.heap.size ≤ gt) := ⟨by rw [hg]; exact Nat.le_refl _⟩; have HB3 := Aside0.mk hb; clear hb hbox hg))
  obtain ⟨w4, hw4⟩ : ∃ w4, w4 = (((w3.setCell ⟨gt, 0, none⟩ (.int .i64 2)).setCell ⟨gt, 1, none⟩ (.int .i64 1)).setCell ⟨gt, 2, none⟩ (.slice A6 2 n6)) := ⟨_, rfl⟩
  rw [← hw4]
  have hX4 : w4.heap[gt]? = some (.cells #[.int .i64 2, .int .i64 1, .slice A6 2 n6] 35 (0, 0)) := by rw [hw4]; exact set_blk (set_blk (set_blk HX3.out 0 _) 1 _) 2 _
  have hO4 : Kd.R (Kd.int .u8) 5 w4 w1.heap.size (fun _ => True) (.slice A6 ([1, 1] : List Int).length n6) [1, 1] := by
    rw [hw4]
    have h3 := Kd.R_below HO2.out HB3.out
    exact R_set (R_set (R_set h3 HX3.out (by decide) 0 _) (set_blk HX3.out 0 _) (by decide) 1 _) (set_blk (set_blk HX3.out 0 _) 1 _) (by decide) 2 _
  have hB4 : Below w1.heap.size w1 w4 := by
    rw [hw4]
    have hg : w1.heap.size ≤ gt := Nat.le_trans HB2.out.size HG3.out
    exact ((((Chg.of_below (below_step HB2.out HB3.out) (fun k => w1.heap.size ≤ k)).set_ (p := ⟨gt, 0, none⟩) (.inl hg) _).set_ (p := ⟨gt, 1, none⟩) (.inl hg) _).set_ (p := ⟨gt, 2, none⟩) (.inl hg) _).below (fun k hk => hk) (Nat.le_refl _)
  have HX4 := Aside0.mk hX4
  have HO4 := Aside0.mk hO4
  have HB4 := Aside0.mk hB4
  clear hX4 hO4 hB4 hw4 z0 z1 z2 f0 f1 f2 HX3 HG3 HB3 HB2 HO2
  go_upto_region 6 with ((with_reducible refine gate_dst (N := 10) rfl ?_); refine Kd.R_lit k25 w4.heap.size 25 ?hg (N := 10) ?hd (xs := ([(⟨0, 4, 0⟩ : Seed)] : List Seed)) (inner := [.int .i64 0, .int .i64 4, .int .i64 0]) (ok := fun _ => True) (okp := fun _ => True) ?hr ?hp (fun _ hk => hk) trivial (Below.refl _ _) (Nat.le_refl _) (by simp) ?_; (case hd => rfl); (case hg => rfl); (case hr => first | (go_simp; done) | (go_simp; rfl)); (case hp => exact (Reps.c3 (k25_mkM _ _ _ (⟨0, 4, 0⟩ : Seed)) (Reps.none _ _))); intro v5 w5 ho hb _ _; obtain ⟨A5, n5, rfl⟩ := Kd.R_slice ho; have HO5 := Aside0.mk ho; have HB5 := Aside0.mk hb; clear ho hb)
  have hS5 : ShelfM w5 (fun b => w.heap.size ≤ b ∧ b < w1.heap.size) sb lb 1 (.slice none 0 0) mb [] (-1) (-1) (.map []) [] (.slice none 0 0) [] [] cnt0 := ShelfM.below (ShelfM.below HS1.out HB4.out) HB5.out
  have hz1 : w1.heap.size ≤ w4.heap.size := HB4.out.size
  have hz2 : w4.heap.size ≤ w5.heap.size := HB5.out.size
  have hA5 : Handed3 w5 (fun b => w.heap.size ≤ b ∧ b < w1.heap.size) A6 n6 [1, 1] A5 n5 [⟨0, 4, 0⟩] :=
    Handed3.of_rows (Kd.R_below HO4.out HB5.out) HO5.out (fun b hb _ => ⟨fun h _ => by omega, fun h _ => by omega⟩) (by simp) (by simp)
  have HS5 := Aside0.mk hS5
  have HA5 := Aside0.mk hA5
  have HZ := Aside0.mk (And.intro hz1 hz2)
  have hX5 := (HB5.out.block gt (blk_lt HX4.out)).trans HX4.out
  have HX5 := Aside0.mk hX5
  have t0 := cell_blk (j := 0) (u := .int .i64 2) hX5 rfl
  have t1 := cell_blk (j := 1) (u := .int .i64 1) hX5 rfl
  have t2 := cell_blk (j := 2) (u := .slice A6 2 n6) hX5 rfl
  clear hS5 hA5 hz1 hz2 hX5
  go_upto_region 7 with (first
    | (go_at_call 65; refine (get_calls HS5.out (fun b hb => by have := HZ.out; have : b < w1.heap.size := hb.2; omega) rfl (a := 5) (b := 6) (ver := 7) ⟨by omega, by omega⟩ ⟨by omega, by omega⟩ (by simp) (by unfold Cnt.ok cnt0; simp) HA5.out told19_ok).mono ?_; rintro e w6 ⟨d6, r6, Ad, cd, Ae, ce, rfl, sv6, s6, nw6, od6, D6, ord6, fv6, kvs6, kps6, c6, N6, sl6, had6, out6, hm, hn, hwn, hl, hc, hd, hr, hg⟩; have HM6 := Aside0.mk hm; have HN6 := Aside0.mk (And.intro hn (And.intro hwn hl)); have HC6 := Aside0.mk hc; have HD6 := Aside0.mk hd; have HR6 := Aside0.mk hr; have HG6 := Aside0.mk (hg.first (by omega)); clear hm hn hwn hl hc hd hr hg t0 t1 t2)
    | ((with_reducible refine gate_dst (N := 4) rfl ?_); refine box_event ?hg (N := 4) ?hd (cs := #[.slice none 0 0, .slice none 0 0]) (t := 60) ?hr ?_; (case hd => rfl); (case hg => rfl); (case hr => first | (go_simp; done) | (go_simp; rfl)); intro gf hg w7 hbox hb; have z0 : w7.cell? ⟨gf, 0, none⟩ = _ := cell_blk hbox rfl; have z1 : w7.cell? ⟨gf, 1, none⟩ = _ := cell_blk hbox rfl; have f0 := free_blk hbox 0; have f1 := free_blk hbox 1; have HF7 := Aside0.mk hbox; have HGF : Aside0 (w6.heap.size ≤ gf) := ⟨by rw [hg]; exact Nat.le_refl _⟩; have HB7 := Aside0.mk hb; clear hb hbox hg))
  obtain ⟨w8, hw8⟩ : ∃ w8, w8 = ((w7.setCell ⟨gf, 0, none⟩ (.slice Ad d6.length cd)).setCell ⟨gf, 1, none⟩ (.slice Ae r6.length ce)) := ⟨_, rfl⟩
  rw [← hw8]
  have hB8 : Below w6.heap.size w6 w8 := by
    rw [hw8]
    exact (((Chg.of_below HB7.out (fun b => w6.heap.size ≤ b)).set_ (p := ⟨gf, 0, none⟩) (.inl HGF.out) _).set_ (p := ⟨gf, 1, none⟩) (.inl HGF.out) _).below (fun k hk => hk) (Nat.le_refl _)
  have hF8 : w8.heap[gf]? = some (.cells #[.slice Ad d6.length cd, .slice Ae r6.length ce] 60 (0, 0)) := by rw [hw8]; exact set_blk (set_blk HF7.out 0 _) 1 _
  have HM8 := Aside0.mk (HM6.out.below hB8)
  have hz5 := HC6.out.size
  have hz6 := hB8.size
  have HZ8 := Aside0.mk (And.intro hz5 hz6)
  have HB8 := Aside0.mk hB8
  have HF8 := Aside0.mk hF8
  have HD8 := Aside0.mk (Kd.R_below HD6.out hB8)
  have hX8 := (hB8.block gt (Nat.lt_of_lt_of_le (blk_lt HX5.out) hz5)).trans (HC6.out.blk HX5.out (fun e => by have h1 : gt < w1.heap.size := e.2; have h2 := HGT.out; omega))
  have HX8 := Aside0.mk hX8
  have hA8 : Handed3 w8 (ownN (fun b => w.heap.size ≤ b ∧ b < w1.heap.size) w5.heap.size N6) A6 n6 [1, 1] A5 n5 [⟨0, 4, 0⟩] := by
    have h58 : Chg (fun b => w.heap.size ≤ b ∧ b < w1.heap.size) w5 w8 := HC6.out.trans (Chg.of_below hB8 _)
    have h1 := Kd.R_mono (Kd.R_bound (Kd.R_below HO4.out HB5.out)) (ok' := fun b => w1.heap.size ≤ b ∧ b < w5.heap.size) (fun x hx => ⟨hx.2.1, hx.2.2.1⟩)
    have h2 := Kd.R_mono (Kd.R_bound HO5.out) (ok' := fun b => w1.heap.size ≤ b ∧ b < w5.heap.size) (fun x hx => ⟨by have := hx.2.1; have := HZ.out; omega, hx.2.2.1⟩)
    refine Handed3.of_rows (h58.R h1 (fun x hx e => by have : x < w1.heap.size := e.2; omega)) (h58.R h2 (fun x hx e => by have : x < w1.heap.size := e.2; omega)) (fun b hb _ => ⟨fun _ h => ?_, fun _ h => ?_⟩) (by simp) (by simp)
    · rcases hb with hb | hb
      · have : b < w1.heap.size := hb.2
        omega
      · omega
    · rcases hb with hb | hb
      · have : b < w1.heap.size := hb.2
        omega
      · omega
  have HA8 := Aside0.mk hA8
  have t0 := cell_blk (j := 0) (u := .int .i64 2) hX8 rfl
  have t1 := cell_blk (j := 1) (u := .int .i64 1) hX8 rfl
  have t2 := cell_blk (j := 2) (u := .slice A6 2 n6) hX8 rfl
  clear hw8 hB8 hF8 hz5 hz6 hX8 hA8 z0 z1 f0 f1 HF7 HB7
  obtain ⟨e1, e2, e3, e4, e5, e6, e7⟩ := HG6.out
  have e1' := e1.trans told19_dist
  subst e1'
  have HE4 := Aside0.mk e4
  have HE6 := Aside0.mk e6
  have HE3 := Aside0.mk e3
  have HE7 := Aside0.mk e7
  have hown8 : ∀ b, ownN (fun b => w.heap.size ≤ b ∧ b < w1.heap.size) w5.heap.size N6 b → b < w8.heap.size := by
    have h1 := HN6.out
    have h2 := HZ8.out
    have h3 := HZ.out
    rintro b (hb | hb)
    · have : b < w1.heap.size := hb.2
      omega
    · omega
  have HOWN8 := Aside0.mk hown8
  clear e1 e2 e3 e4 e5 e6 e7 hown8 HG6
  go_upto_region 8 with (go_at_call 65; refine (get_calls HM8.out HOWN8.out HN6.out.2.2 (a := 5) (b := 6) (ver := 7) ⟨by omega, by omega⟩ ⟨by omega, by omega⟩ (by rw [HE3.out]; omega) (by rw [HE7.out]; unfold Cnt.ok cnt0; simp) HA8.out told19_ok).mono ?_; rintro e w9 ⟨d9, r9, Ax, cx, Ay, cy, rfl, sv9, s9, nw9, od9, D9, ord9, fv9, kvs9, kps9, c9, N9, sl9, had9, out9, hm, hn, hwn, hl, hc, hd, hr, hg⟩; rw [HE3.out] at hg; have HG9 := Aside0.mk (hg.again HE4.out HE6.out); have HM9 := Aside0.mk hm; have HC9 := Aside0.mk hc; clear hm hn hwn hl hc hd hr hg t0 t1 t2)
  have hnf : ¬ ownN (fun b => w.heap.size ≤ b ∧ b < w1.heap.size) w5.heap.size N6 gf := by
    have h1 := HN6.out
    have h2 := HZ8.out
    have h3 := HZ.out
    have h4 := HGF.out
    rintro (hb | hb)
    · have : gf < w1.heap.size := hb.2
      omega
    · omega
  have hf9 := HC9.out.blk HF8.out hnf
  have q0 := cell_blk (j := 0) (u := .slice Ad 2 cd) hf9 rfl
  have hd9 := HC9.out.R (Kd.R_bound HD8.out) (fun x hx e => by
    have h1 := HN6.out
    have h2 := HZ8.out
    have h3 := HZ.out
    have h4 : N6 ≤ x := hx.2.1
    rcases e with hb | hb
    · have : x < w1.heap.size := hb.2
      omega
    · omega)
  have HD9 := Aside0.mk (R_C hd9)
  obtain ⟨_, _, _, e4⟩ := HG9.out
  have e5 := e4.trans (by rw [HE7.out])
  have HC99 := Aside0.mk e5
  have hcv : cntV c9 = .agg #[.int .u64 0, .int .u64 0, .int .u64 1, .int .u64 1, .int .u64 0, .int .u64 0] := by rw [e5]; rfl
  have HCV := Aside0.mk hcv
  have hz9 := HC9.out.size
  have HB9 : Aside0 (Below w.heap.size w w9) := ⟨by
    have h1 := HN6.out
    have h2 := HZ8.out
    have h3 := HZ.out
    have h4 := HB1.out.size
    have h14 := below_step HB4.out HB5.out
    have hc15 : Chg (fun b => w.heap.size ≤ b) w w5 := Chg.of_below (below_step HB1.out h14) _
    have hc16 := hc15.then_ HC6.out (fun x hx => .inl hx.1)
    have hc18 := hc16.then_ (Chg.of_below HB8.out (fun _ => False)) (fun _ h => h.elim)
    have hc19 := hc18.then_ HC9.out (fun x hx => by
      rcases hx with hx | hx
      · exact .inl hx.1
      · exact .inl (show w.heap.size ≤ x by omega))
    exact hc19.below (fun k hk => hk) (Nat.le_refl _)⟩
  clear hnf hf9 hd9 e4 e5 hcv hz9
  go_wp2_with (first
    | (go_at_call 51; refine (ints2_calls Ad cd 0 1 w9 HD9.out.1 HD9.out.2).mono ?_; rintro e w10 ⟨rfl, hb⟩; have HB10 := Aside0.mk hb; clear hb)
    | (go_at_call 67; refine (countS_calls (HM9.out.below (below_step (below_alloc (Below.refl _ _) _) HB10.out))).mono ?_; rintro e w11 ⟨he, hb⟩; rw [HCV.out] at he; subst he; have HB11 := Aside0.mk hb; clear hb))
  go_ret
  exact ⟨rfl, below_step HB9.out (below_step (below_step (below_alloc (Below.refl _ _) _) HB10.out) HB11.out)⟩
end Go.Proofs.Ytgcfcemgeppkmaa.P
namespace Go.Proofs.Ytgcfcemgeppkmaa.P
open Go.RowKit Go.Proofs.YtgcfcemgeppkmaaW.PrintWords Go.Proofs.YtgcfcemgeppkmaaW.PrintLast Go.Proofs.YtgcfcemgeppkmaaW.PrintMore
open Go.Proofs.Ytgcfcemgeppkmaa.Dist
set_option linter.unusedVariables false
set_option linter.unusedSimpArgs false
attribute [local go_sem high] eqStats
theorem cnt0_V : cntV cnt0 = .agg #[.int .u64 0, .int .u64 0, .int .u64 0, .int .u64 0, .int .u64 0, .int .u64 0] := rfl
set_option maxRecDepth 100000 in
set_option maxHeartbeats 4000000 in
theorem shelfNone_calls (k a b ver W0 H0 : Int) (A0 : Option Addr) (c0 : Nat) (l0 : List Int) (A4 : Option Addr) (c4 : Nat) (l4 : List Seed) (w : World) (hr0 : Kd.C (Kd.int .u8) w A0 l0.length l0) (hc0 : l0.length ≤ c0) (hr4 : Kd.C k25 w A4 l4.length l4) (hc4 : l4.length ≤ c4) (hb0 : ∀ x ∈ l0, 0 ≤ x ∧ x ≤ 255) :
    Calls Try.prog 27 #[.int .i64 k, .int .i64 a, .int .i64 b, .int .i64 ver, .agg #[.int .i64 W0, .int .i64 H0, .slice A0 l0.length c0], .slice A4 l4.length c4] w fun e w' => e = .returned (.bool true) ∧ Below w.heap.size w w' := by
  have HR0 := Aside0.mk hr0
  have HC0 := Aside0.mk hc0
  have HR4 := Aside0.mk hr4
  have HC4 := Aside0.mk hc4
  have HB0 := Aside0.mk hb0
  clear hr0 hc0 hr4 hc4 hb0
  by_cases h6 : l0.length ≤ 600 ∧ l4.length ≤ 40
  · obtain ⟨h600, h40⟩ := h6
    have d1 : decide (600 < (l0.length : Int)) = false := decide_eq_false (by omega)
    have d2 : decide (600 < l0.length) = false := decide_eq_false (by omega)
    have d3 : decide (40 < (l4.length : Int)) = false := decide_eq_false (by omega)
    have d4 : decide (40 < l4.length) = false := decide_eq_false (by omega)
    have HMY := Aside0.mk (maySeedsA W0 H0 l0 (by omega) l4 (by omega) 5000 (by omega))
    have H600 := Aside0.mk (And.intro h600 h40)
    clear h600 h40
    go_enter Try.func27, Try.ntmps27
    go_upto_region 5 with (first
      | ((with_reducible refine gate_dst (N := 10) rfl ?_); refine box_event ?hg (N := 10) ?hd (cs := #[.int .i64 W0, .int .i64 H0, .slice A0 l0.length c0]) (t := 35) ?hr ?_; (case hd => rfl); (case hg => rfl); (case hr => first | (go_simp; done) | (go_simp; rfl)); intro gp hg w1 hbox hb; have p0 : w1.cell? ⟨gp, 0, none⟩ = _ := cell_blk hbox rfl; have p1 : w1.cell? ⟨gp, 1, none⟩ = _ := cell_blk hbox rfl; have p2 : w1.cell? ⟨gp, 2, none⟩ = _ := cell_blk hbox rfl; have HP1 := Aside0.mk hbox; have HB1 := Aside0.mk hb; clear hbox hb hg)
      | (go_at_call 65; refine (get_nil _ a b ver W0 H0 A0 l0.length c0 A4 l4.length c4).mono ?_; rintro e w2 ⟨rfl, hb⟩; have HP2 := Aside0.mk (blk_step HP1.out hb); have HB2 := Aside0.mk (below_step HB1.out hb); clear hb p0 p1 p2)
      | ((with_reducible refine gate_dst (N := 14) rfl ?_); refine box_event ?hg (N := 14) ?hd (cs := #[.slice none 0 0, .slice none 0 0]) (t := 60) ?hr ?_; (case hd => rfl); (case hg => rfl); (case hr => first | (go_simp; done) | (go_simp; rfl)); intro gf hg w3 hbox hb; have z0 : w3.cell? ⟨gf, 0, none⟩ = _ := cell_blk hbox rfl; have z1 : w3.cell? ⟨gf, 1, none⟩ = _ := cell_blk hbox rfl; have f0 := free_blk hbox 0; have f1 := free_blk hbox 1; have HF3 := Aside0.mk hbox; have HGF : Aside0 (w2.heap.size ≤ gf) := ⟨by rw [hg]; exact Nat.le_refl _⟩; have HB3 := Aside0.mk hb; clear hb hbox hg))
    obtain ⟨w4, hw4⟩ : ∃ w4, w4 = ((w3.setCell ⟨gf, 0, none⟩ (.slice none 0 0)).setCell ⟨gf, 1, none⟩ (.slice none 0 0)) := ⟨_, rfl⟩
    rw [← hw4]
    have hB4 : Below w2.heap.size w2 w4 := by
      rw [hw4]
      exact (((Chg.of_below HB3.out (fun b => w2.heap.size ≤ b)).set_ (p := ⟨gf, 0, none⟩) (.inl HGF.out) _).set_ (p := ⟨gf, 1, none⟩) (.inl HGF.out) _).below (fun k hk => hk) (Nat.le_refl _)
    have hF4 : w4.heap[gf]? = some (.cells #[.slice none 0 0, .slice none 0 0] 60 (0, 0)) := by rw [hw4]; exact set_blk (set_blk HF3.out 0 _) 1 _
    have HF4 := Aside0.mk hF4
    have HP4 := Aside0.mk (blk_step HP2.out hB4)
    have HB4 := Aside0.mk (below_step HB2.out hB4)
    clear hw4 hB4 hF4 z0 z1 f0 f1 HF3 HB3 HGF HP2 HB2 HP1 HB1
    by_cases hk : k < 1
    · have dk : decide (k < 1) = true := decide_eq_true hk
      have q0 := cell_blk (j := 0) (u := .slice none 0 0) HF4.out rfl
      go_wp2_with (first
        | (go_at_call 68; refine (flushS_nil _).mono ?_; rintro e w5 ⟨rfl, rfl⟩)
        | (go_at_call 64; refine (newS_none k hk _).mono ?_; rintro e w5 ⟨rfl, rfl⟩)
        | (go_at_call 71; refine (keysS_nil _).mono ?_; rintro e w5 ⟨rfl, rfl⟩)
        | (go_at_call 67; refine (countS_nil _).mono ?_; rintro e w6 ⟨he, hb⟩; rw [cnt0_V] at he; subst he; have HB6 := Aside0.mk hb; clear hb)
        | (go_at_call 66; refine (told19_calls _).mono ?_; rintro e w7 ⟨rfl, hb⟩; have HB7 := Aside0.mk hb; clear hb))
      go_ret
      exact ⟨rfl, below_step HB4.out (below_step HB6.out HB7.out)⟩
    · have dk : decide (k < 1) = false := decide_eq_false hk
      have q0 := cell_blk (j := 0) (u := .slice none 0 0) HF4.out rfl
      go_upto_region 9 with (first
        | (go_at_call 68; refine (flushS_nil _).mono ?_; rintro e w5 ⟨rfl, rfl⟩)
        | (go_at_call 64; refine (newS_calls k (by omega) _).mono ?_; rintro e w5 ⟨sb, lb, mb, rfl, hs, hb⟩; have HS5 := Aside0.mk hs; have HB5 := Aside0.mk hb; have q0 := pw_cell_below hb q0; clear hs hb)
        | (go_at_call 71; refine (keysS_nil _).mono ?_; rintro e w5 ⟨rfl, rfl⟩)
        | (go_at_call 67; refine (countS_nil _).mono ?_; rintro e w6 ⟨he, hb⟩; rw [cnt0_V] at he; subst he; have HB6 := Aside0.mk hb; clear hb))
      have HB46 := Aside0.mk (below_step HB5.out HB6.out)
      have hP6 := blk_step HP4.out HB46.out
      have HP6 := Aside0.mk hP6
      have p0 := cell_blk (j := 0) (u := .int .i64 W0) hP6 rfl
      have p1 := cell_blk (j := 1) (u := .int .i64 H0) hP6 rfl
      have p2 := cell_blk (j := 2) (u := .slice A0 l0.length c0) hP6 rfl
      have HB := Aside0.mk (below_step HB4.out HB46.out)
      have HS6 := Aside0.mk (ShelfM.below HS5.out HB6.out)
      clear hP6 q0 HB46 HB4 HP4 HF4 HB5 HS5
      by_cases hs : SeedsOk W0 H0 l0 l4
      · have hm : herdsmanref7_MaySeeds.f 5000 W0 H0 l0 l4 = some true := HMY.out.trans (by simp [hs])
        have HM := Aside0.mk hm
        clear hm hs
        go_wp2_with (first
          | (go_at_call 40; refine (herdsmanref7_MaySeeds.calls 5000 W0 H0 A0 c0 l0 A4 c4 l4 true _ (Kd.C_below HR0.out HB.out) HC0.out (Kd.C_below HR4.out HB.out) HC4.out HM.out).mono ?_; rintro e w7 ⟨rfl, hb⟩; have HB7 := Aside0.mk (below_step HB.out hb); clear hb)
          | (go_at_call 66; refine (told19_calls _).mono ?_; rintro e w8 ⟨rfl, hb⟩; have HB8 := Aside0.mk (below_step HB7.out hb); clear hb))
        go_ret
        exact ⟨rfl, HB8.out⟩
      · have hm : herdsmanref7_MaySeeds.f 5000 W0 H0 l0 l4 = some false := HMY.out.trans (by simp [hs])
        have HM := Aside0.mk hm
        have HSN := Aside0.mk hs
        clear hm hs
        go_upto_region 12 with (first
          | (go_at_call 40; refine (herdsmanref7_MaySeeds.calls 5000 W0 H0 A0 c0 l0 A4 c4 l4 false _ (Kd.C_below HR0.out HB.out) HC0.out (Kd.C_below HR4.out HB.out) HC4.out HM.out).mono ?_; rintro e w7 ⟨rfl, hb⟩; have HB7 := Aside0.mk (below_step HB.out hb); have HS7 := Aside0.mk (ShelfM.below HS6.out hb); have p0 := pw_cell_below hb p0; have p1 := pw_cell_below hb p1; have p2 := pw_cell_below hb p2; clear hb)
          | (go_at_call 65; refine (get_no sb _ a b ver (own := fun _ => False) (C := l0) (s := l4) ⟨Kd.C_below HR0.out HB7.out, HC0.out, Kd.C_below HR4.out HB7.out, HC4.out, fun _ _ _ h => h, fun _ _ _ h => h, HB0.out, by have := H600.out; omega, by have := H600.out; omega⟩ HSN.out).mono ?_; rintro e w8 ⟨rfl, hb⟩; have HB8 := Aside0.mk (below_step HB7.out hb); have HS8 := Aside0.mk (ShelfM.below HS7.out hb); clear hb p0 p1 p2)
          | ((with_reducible refine gate_dst (N := 17) rfl ?_); refine box_event ?hg (N := 17) ?hd (cs := #[.slice none 0 0, .slice none 0 0]) (t := 60) ?hr ?_; (case hd => rfl); (case hg => rfl); (case hr => first | (go_simp; done) | (go_simp; rfl)); intro gg hg w9 hbox hb; have z0 : w9.cell? ⟨gg, 0, none⟩ = _ := cell_blk hbox rfl; have z1 : w9.cell? ⟨gg, 1, none⟩ = _ := cell_blk hbox rfl; have f0 := free_blk hbox 0; have f1 := free_blk hbox 1; have HF9 := Aside0.mk hbox; have HG9 : Aside0 (w8.heap.size ≤ gg) := ⟨by rw [hg]; exact Nat.le_refl _⟩; have HB9 := Aside0.mk hb; clear hb hbox hg))
        obtain ⟨w10, hw10⟩ : ∃ w10, w10 = ((w9.setCell ⟨gg, 0, none⟩ (.slice none 0 0)).setCell ⟨gg, 1, none⟩ (.slice none 0 0)) := ⟨_, rfl⟩
        rw [← hw10]
        have hB10 : Below w8.heap.size w8 w10 := by
          rw [hw10]
          exact (((Chg.of_below HB9.out (fun b => w8.heap.size ≤ b)).set_ (p := ⟨gg, 0, none⟩) (.inl HG9.out) _).set_ (p := ⟨gg, 1, none⟩) (.inl HG9.out) _).below (fun k hk => hk) (Nat.le_refl _)
        have hF10 : w10.heap[gg]? = some (.cells #[.slice none 0 0, .slice none 0 0] 60 (0, 0)) := by rw [hw10]; exact set_blk (set_blk HF9.out 0 _) 1 _
        have HB10 := Aside0.mk (below_step HB8.out hB10)
        have HS10 := Aside0.mk (ShelfM.below HS8.out hB10)
        have q0 := cell_blk (j := 0) (u := .slice none 0 0) hF10 rfl
        have q1 := cell_blk (j := 1) (u := .slice none 0 0) hF10 rfl
        clear hw10 hB10 hF10 z0 z1 f0 f1 HF9 HB9 HG9
        go_wp2_with (first
          | (go_at_call 66; refine (told19_calls _).mono ?_; rintro e w11 ⟨rfl, hb⟩; have HB11 := Aside0.mk (below_step HB10.out hb); have HS11 := Aside0.mk (ShelfM.below HS10.out hb); have q0 := pw_cell_below hb q0; have q1 := pw_cell_below hb q1; clear hb)
          | (go_at_call 71; refine (keysS_calls HS11.out (by simp)).mono ?_; rintro e w12 ⟨v12, rfl, ho, hb⟩; obtain ⟨A12, n12, rfl⟩ := Kd.R_slice ho; have HB12 := Aside0.mk (below_step HB11.out hb); have HS12 := Aside0.mk (ShelfM.below HS11.out hb); clear ho hb)
          | (go_at_call 67; refine (countS_calls HS12.out).mono ?_; rintro e w13 ⟨he, hb⟩; rw [cnt0_V] at he; subst he; have HB13 := Aside0.mk (below_step HB12.out hb); clear hb))
        go_ret
        exact ⟨rfl, HB13.out⟩
  · have told : ∀ (h : 600 < l0.length ∨ 600 ≥ l0.length ∧ 40 < l4.length), Calls Try.prog 27 #[.int .i64 k, .int .i64 a, .int .i64 b, .int .i64 ver, .agg #[.int .i64 W0, .int .i64 H0, .slice A0 l0.length c0], .slice A4 l4.length c4] w fun e w' => e = .returned (.bool true) ∧ Below w.heap.size w w' := by
      intro h
      rcases h with h | ⟨h0, h⟩
      case' inl =>
        have d1 : decide (600 < (l0.length : Int)) = true := decide_eq_true (by omega)
        have d2 : decide (600 < l0.length) = true := decide_eq_true (by omega)
      case' inr =>
        have d1 : decide (600 < (l0.length : Int)) = false := decide_eq_false (by omega)
        have d2 : decide (600 < l0.length) = false := decide_eq_false (by omega)
        have d3 : decide (40 < (l4.length : Int)) = true := decide_eq_true (by omega)
        have d4 : decide (40 < l4.length) = true := decide_eq_true (by omega)
      all_goals
        go_enter Try.func27, Try.ntmps27
        go_wp2_with (first
          | ((with_reducible refine gate_dst (N := 10) rfl ?_); refine box_event ?hg (N := 10) ?hd (cs := #[.int .i64 W0, .int .i64 H0, .slice A0 l0.length c0]) (t := 35) ?hr ?_; (case hd => rfl); (case hg => rfl); (case hr => first | (go_simp; done) | (go_simp; rfl)); intro gp hg w1 hbox hb; have p0 : w1.cell? ⟨gp, 0, none⟩ = _ := cell_blk hbox rfl; have p1 : w1.cell? ⟨gp, 1, none⟩ = _ := cell_blk hbox rfl; have p2 : w1.cell? ⟨gp, 2, none⟩ = _ := cell_blk hbox rfl; have HB1 := Aside0.mk hb; clear hbox hb hg)
          | (go_at_call 66; refine (told19_calls _).mono ?_; rintro e w10 ⟨rfl, hb⟩; have HB10 := Aside0.mk (below_step HB1.out hb); clear hb))
        go_ret
        exact ⟨rfl, HB10.out⟩
    exact told (by omega)
/-- As the row's form wants it. -/
noncomputable def shelfNoneH.f (n : Nat) (k a b ver W0 H0 : Int) (l0 : List Int) (l4 : List Seed) : Option Bool := open Classical in if ∀ x ∈ l0, 0 ≤ x ∧ x ≤ 255 then some true else none
theorem shelfNoneH.calls (n : Nat) (k a b ver W0 H0 : Int) (A0 : Option Addr) (c0 : Nat) (l0 : List Int) (A4 : Option Addr) (c4 : Nat) (l4 : List Seed) (r : Bool) (w : World) (hr0 : Kd.C (Kd.int .u8) w A0 l0.length l0) (hc0 : l0.length ≤ c0) (hr4 : Kd.C k25 w A4 l4.length l4) (hc4 : l4.length ≤ c4) (h : shelfNoneH.f n k a b ver W0 H0 l0 l4 = some r) :
    Calls Try.prog 27 #[.int .i64 k, .int .i64 a, .int .i64 b, .int .i64 ver, .agg #[.int .i64 W0, .int .i64 H0, .slice A0 l0.length c0], .slice A4 l4.length c4] w fun e w' => e = .returned (.bool r) ∧ Below w.heap.size w w' := by
  unfold shelfNoneH.f at h
  split at h
  · rename_i hb
    obtain rfl := Option.some.inj h
    exact shelfNone_calls k a b ver W0 H0 A0 c0 l0 A4 c4 l4 w hr0 hc0 hr4 hc4 hb
  · exact absurd h (by simp)
end Go.Proofs.Ytgcfcemgeppkmaa.P
