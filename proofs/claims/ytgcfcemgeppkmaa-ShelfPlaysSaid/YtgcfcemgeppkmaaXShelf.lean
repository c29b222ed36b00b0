/-
  slices.Clone of ints; shelf.own, shelf.one. The shelf in memory: its block, its lru, its row of what is kept. PLAIN: slices.Equal at seeds.
-/
import Derived.Test.YtgcfcemgeppkmaaXLruKeys
import Derived.Test.YtgcfcemgeppkmaaXSteer
import Derived.Test.YtgcfcemgeppkmaaPx8
import Derived.Test.YtgcfcemgeppkmaaPx15
import Derived.Test.YtgcfcemgeppkmaaXSort
namespace Go.Proofs.Ytgcfcemgeppkmaa.P
open Go.RowKit Go.Proofs.YtgcfcemgeppkmaaW.PrintWords Go.Proofs.YtgcfcemgeppkmaaW.PrintLast Go.Proofs.YtgcfcemgeppkmaaW.PrintMore
set_option linter.unusedVariables false
set_option linter.unusedSimpArgs false
set_option maxHeartbeats 1000000 in
theorem cloneI_nil (n c : Nat) (w : World) : Calls Try.prog 122 #[.slice none n c] w fun e w' => e = .returned (.slice none 0 0) ∧ w' = w := by
  have q22 : ∀ (w : World) (a : Option Addr) (n c n' c' : Nat), Sem.run Try.prog (binOp .eql 36 (.slice a n c) (.slice none n' c')) w = .ok (.bool a.isNone) w := fun w a n c n' c' => Lib.run_eql_slice_nil w _ _ a n c n' c' Try.underlying36
  go_enter Try.func122, Try.ntmps122
  go_wp2
  go_ret
  exact ⟨rfl, rfl⟩
set_option maxHeartbeats 1000000 in
theorem cloneI_some (ad : Addr) (c : Nat) (l : List Int) (w : World) (hC : Kd.C (Kd.int .i64) w (some ad) l.length l) (hl : l.length < 5864062014805) :
    Calls Try.prog 122 #[.slice (some ad) l.length c] w fun e w' => ∃ v, e = .returned v ∧ Kd.R (Kd.int .i64) 3 w' w.heap.size (fun _ => True) v l ∧ Below w.heap.size w w' := by
  have q22 : ∀ (w : World) (a : Option Addr) (n c n' c' : Nat), Sem.run Try.prog (binOp .eql 36 (.slice a n c) (.slice none n' c')) w = .ok (.bool a.isNone) w := fun w a n c n' c' => Lib.run_eql_slice_nil w _ _ a n c n' c' Try.underlying36
  have HB := Aside0.mk (Below.refl w.heap.size w)
  have HR := Aside0.mk hC
  have HL := Aside0.mk hl
  clear hC hl
  go_enter Try.func122, Try.ntmps122
  go_wp2_with (first | ((with_reducible refine gate_dst (N := 5) rfl ?_); refine Kd.R_lit (Kd.int .i64) _ 3 ?hg (N := 5) ?hd (xs := ([] : List Int)) (inner := []) (ok := fun _ => True) (okp := fun _ => True) ?hr ?hp (fun _ hk => hk) trivial (Below.refl _ _) (Nat.le_refl _) (by simp) ?_; (case hd => rfl); (case hg => rfl); (case hr => first | (go_simp; done) | (go_simp; rfl)); (case hp => exact (Reps.none _ _)); intro v1 w1 ho hb hg_ hnew_; clear hg_ hnew_; have n0_ := Aside0.mk (Kd.R_lower ho (below_size (by repeat (first | (with_reducible first | exact HB.out | apply below_alloc | apply pw_below_drewN | apply below_drew1) | exact HB.out)))); have n1_ := Aside0.mk (below_step (by repeat (first | (with_reducible first | exact HB.out | apply below_alloc | apply pw_below_drewN | apply below_drew1) | exact HB.out)) hb); clear HB; have HO := n0_; have HB := n1_; clear n0_ n1_; clear hb ho) | ((with_reducible refine gate_builtin (b := .append) (xs := #[.tmp 5, .tmp 6]) rfl ?_); at_builtin; refine Kd.R_append_rows (Kd.int .i64) (w0 := w) w.heap.size rfl (.tmp 5) (.tmp 6) 36 3 (.int .i64 0) 8 rfl Try.underlying36 info3 rfl (by decide) (by omega) v1 ([] : List Int) l _ _ _ (fun _ => True) (fun _ => False) rfl rfl ?aO ?aR (fun _ _ h => h) (fun _ h => h.elim) ?aF ?aB ?aS ?aL ?_; (case aR => exact Kd.C_below HR.out HB.out); (case aB => exact HB.out); (case aF => exact (fun _ _ => trivial)); (case aO => exact HO.out); (case aS => exact below_size HB.out); (case aL => have := HL.out; simp only [List.length_nil]; omega); intro v2 w2 ho hb hg hat; have n0_ := Aside0.mk (hb); have n1_ := Aside0.mk (ho); clear HB; clear HO; have HB := n0_; have HO := n1_; clear n0_ n1_; clear ho hb hg hat))
  go_ret
  exact ⟨_, rfl, HO.out, HB.out⟩
abbrev RowI (w : World) (base : Nat) (ok : Nat → Prop) (v : Value) (l : List Int) : Prop := Kd.R (Kd.int .i64) 3 w base ok v l
theorem cloneI_calls (A : Option Addr) (c : Nat) (l : List Int) (w : World) (h : Kd.C (Kd.int .i64) w A l.length l) (hl : l.length ≤ 1000000) :
    Calls Try.prog 122 #[.slice A l.length c] w fun e w' => ∃ v, e = .returned v ∧ RowI w' w.heap.size (fun _ => True) v l ∧ Below w.heap.size w w' := by
  cases A with
  | none =>
    obtain rfl := C_none h
    exact (cloneI_nil _ _ w).mono fun _ _ ⟨he, hw⟩ => ⟨_, he, Kd.R_nil _ _ _ _ _, by rw [hw]; exact Below.refl _ _⟩
  | some ad => exact cloneI_some ad c l w h (by omega)
set_option maxHeartbeats 1000000 in
theorem cloneS_calls (A : Option Addr) (c : Nat) (l : List Seed) (w : World) (h : Kd.C k25 w A l.length l) (hl : l.length ≤ 1000000) :
    Calls Try.prog 73 #[.slice A l.length c] w fun e w' => ∃ v, e = .returned v ∧ Kd.R k25 25 w' w.heap.size (fun _ => True) v l ∧ Below w.heap.size w w' := by
  cases A with
  | none =>
    obtain rfl := C_none h
    exact (clone_nil _ _ w).mono fun _ _ ⟨he, hw⟩ => ⟨_, he, Kd.R_nil _ _ _ _ _, by rw [hw]; exact Below.refl _ _⟩
  | some ad => exact clone_some ad c l w h (by omega)
set_option maxRecDepth 100000 in
set_option maxHeartbeats 2000000 in
theorem one_calls (sb j : Nat) (x : Int) (w : World) (hc : w.cell? ⟨sb, j, none⟩ = some (.int .u64 x)) (hf : w.frozen? ⟨sb, j, none⟩ = false) (hx : 0 ≤ x ∧ x ≤ 1000000000) :
    Calls Try.prog 99 #[.pointer (some ⟨sb, j, none⟩)] w fun e w' => e = .returned (.tuple #[]) ∧ ∃ q, w' = (w.drewN q).setCell ⟨sb, j, none⟩ (.int .u64 (x + 1)) := by
  have hadd : tally_Add.f x 1 = some (x + 1) := by
    have h1 : IntKind.u64.wrap (18446744073709551615 - 1) = 18446744073709551614 := by decide
    have h2 : IntKind.u64.wrap (x + 1) = x + 1 := by rw [IntKind.wrap_u64]; omega
    unfold tally_Add.f
    rw [h1, h2, if_neg (by omega)]
  have HA := Aside0.mk hadd
  clear hadd
  go_enter Try.func99, Try.ntmps99
  go_wp2_with (go_at_call 121; refine (tally_Add.calls x 1 (x + 1) _ HA.out).mono ?_; rintro e w' ⟨rfl, ⟨q, rfl⟩⟩)
  go_end0
  exact ⟨rfl, q, rfl⟩
set_option maxRecDepth 100000 in
set_option maxHeartbeats 2000000 in
theorem own_calls (A : Option Addr) (c : Nat) (l : List Int) (A' : Option Addr) (c' : Nat) (l' : List Int) (w : World) (h : Kd.C (Kd.int .i64) w A l.length l) (h' : Kd.C (Kd.int .i64) w A' l'.length l') (hl : l.length ≤ 1000000) (hl' : l'.length ≤ 1000000) :
    Calls Try.prog 100 #[.agg #[.slice A l.length c, .slice A' l'.length c']] w fun e w' => ∃ B m B' m', e = .returned (.agg #[.slice B l.length m, .slice B' l'.length m']) ∧ RowI w' w.heap.size (fun _ => True) (.slice B l.length m) l ∧ RowI w' w.heap.size (fun _ => True) (.slice B' l'.length m') l' ∧ Below w.heap.size w w' := by
  have HC := Aside0.mk h
  have HC' := Aside0.mk h'
  clear h h'
  go_enter Try.func100, Try.ntmps100
  go_upto_region 1 with (first
    | ((with_reducible refine gate_dst (N := 1) rfl ?_); refine box_event ?hg (N := 1) ?hd (cs := #[.slice A l.length c, .slice A' l'.length c']) (t := 60) ?hr ?_; (case hd => rfl); (case hg => rfl); (case hr => first | (go_simp; done) | (go_simp; rfl)); intro g1 hg w1 hbox hb; have HX1 := Aside0.mk hbox; have HB1 := Aside0.mk hb; clear hbox hb hg)
    | ((with_reducible refine gate_dst (N := 2) rfl ?_); refine box_event ?hg (N := 2) ?hd (cs := #[.slice none 0 0, .slice none 0 0]) (t := 60) ?hr ?_; (case hd => rfl); (case hg => rfl); (case hr => first | (go_simp; done) | (go_simp; rfl)); intro g2 hg w2 hbox hb; have HX2 := Aside0.mk hbox; have HB2 := Aside0.mk hb; have HG2 := Aside0.mk hg; clear hbox hb hg))
  have hx1 := (HB2.out.block g1 (blk_lt HX1.out)).trans HX1.out
  have HNE : Aside0 (g1 ≠ g2) := ⟨by have := blk_lt HX1.out; have := HG2.out; omega⟩
  have s0 := cell_blk (j := 0) (u := .slice A l.length c) hx1 rfl
  have s1 := cell_blk (j := 1) (u := .slice A' l'.length c') hx1 rfl
  have hB := below_step HB1.out HB2.out
  have HB := Aside0.mk hB
  have HD2 := Aside0.mk (Kd.C_below HC.out hB)
  have HD2' := Aside0.mk (Kd.C_below HC'.out hB)
  clear hB hx1
  go_region_held3 (fun w' => w'.cell? ⟨g1, 0, none⟩ = some (.slice A l.length c) ∧ w'.cell? ⟨g1, 1, none⟩ = some (.slice A' l'.length c'))
    (first | exact ⟨s0, s1⟩ | exact ⟨u0, u1⟩ | exact ⟨y0, y1⟩ | exact ⟨(cfar HNE.out _).trans ((cfar (w := w4) HNE.out _).trans y0), (cfar HNE.out _).trans ((cfar (w := w4) HNE.out _).trans y1)⟩ | go_keep)
    (first
      | (go_at_call 122; refine (cloneI_calls A c l _ (Kd.C_drew HD2.out) hl).mono ?_; rintro e w3 ⟨v3, rfl, ho, hb⟩; obtain ⟨B3, m3, rfl⟩ := Kd.R_slice ho; have u0 := pw_cell_below hb (a := ⟨g1, 0, none⟩) (v := .slice A l.length c) s0; have u1 := pw_cell_below hb (a := ⟨g1, 1, none⟩) (v := .slice A' l'.length c') s1; have HB3 := Aside0.mk (below_step (below_drew1 HB.out) hb); have HB23 := Aside0.mk hb; have HO3 := Aside0.mk ho; have HX3 := Aside0.mk ((hb.block g2 (blk_lt HX2.out)).trans HX2.out); have HE3' := Aside0.mk (Kd.C_below (Kd.C_drew HD2'.out) hb); have HE3 := Aside0.mk (Kd.C_below (Kd.C_drew HD2.out) hb); clear ho hb)
      | (go_at_call 122; refine (cloneI_calls A' c' l' _ HE3'.out hl').mono ?_; rintro e w4 ⟨v4, rfl, ho, hb⟩; obtain ⟨B4, m4, rfl⟩ := Kd.R_slice ho; have y0 := pw_cell_below hb (a := ⟨g1, 0, none⟩) (v := .slice A l.length c) u0; have y1 := pw_cell_below hb (a := ⟨g1, 1, none⟩) (v := .slice A' l'.length c') u1; have HB4 := Aside0.mk (below_step HB3.out hb); have hs := hb.size; have HSZ := Aside0.mk hs; have HO4 := Aside0.mk ho; have HO34 := Aside0.mk (Kd.R_below HO3.out hb); have hx4 := (hb.block g2 (blk_lt HX3.out)).trans HX3.out; have HX4 := Aside0.mk hx4; have z0 := cell_blk (j := 0) (u := .slice none 0 0) hx4 rfl; have z1 := cell_blk (j := 1) (u := .slice none 0 0) hx4 rfl; have f0 := free_blk hx4 0; have f1 := free_blk hx4 1; clear ho hb hs hx4))
  have hx5 := set_blk (set_blk HX4.out 0 (.slice B3 l.length m3)) 1 (.slice B4 l'.length m4)
  have r0 := cell_blk (j := 0) (u := .slice B3 l.length m3) hx5 rfl
  have r1 := cell_blk (j := 1) (u := .slice B4 l'.length m4) hx5 rfl
  have hs3 := HB23.out.size
  have HS3 := Aside0.mk hs3
  have hs2 := HB.out.size
  have HS2 := Aside0.mk hs2
  clear hs3 hs2 y0 y1 u0 u1 s0 s1 z0 z1 f0 f1
  have HX5 := Aside0.mk hx5
  clear hx5
  go_wp2
  (try simp only [Exit.inBlock, Exit.then])
  refine bodyPost_ret (results_cell_row rfl _ _ g2 60 #[.slice B3 l.length m3, .slice B4 l'.length m4] (0, 0) _ rfl HX5.out Try.underlying60 rfl (by kernel_rfl)) rfl ?_
  refine ⟨B3, m3, B4, m4, rfl, ?_, ?_, ?_⟩
  · have h5 := R_set (R_set HO34.out HX4.out (by decide) 0 (.slice B3 l.length m3)) (set_blk HX4.out 0 _) (by decide) 1 (.slice B4 l'.length m4)
    exact Kd.R_lower h5 HS2.out
  · have h5 := R_set (R_set HO4.out HX4.out (by decide) 0 (.slice B3 l.length m3)) (set_blk HX4.out 0 _) (by decide) 1 (.slice B4 l'.length m4)
    exact Kd.R_lower h5 (Nat.le_trans HS2.out HS3.out)
  · have hg : w.heap.size ≤ g2 := by have := HG2.out; have := HB1.out.size; omega
    exact (((Chg.of_below HB4.out (fun b => w.heap.size ≤ b)).set_ (p := ⟨g2, 0, none⟩) (.inl hg) _).set_ (p := ⟨g2, 1, none⟩) (.inl hg) _).below (fun k hk => hk) (Nat.le_refl _)
end Go.Proofs.Ytgcfcemgeppkmaa.P
namespace Go.Proofs.Ytgcfcemgeppkmaa.P
open Go.RowKit Go.Proofs.YtgcfcemgeppkmaaW.PrintWords Go.Proofs.YtgcfcemgeppkmaaW.PrintLast Go.Proofs.YtgcfcemgeppkmaaW.PrintMore
open Go.Proofs.Ytgcfcemgeppkmaa.Ord
set_option linter.unusedVariables false
set_option linter.unusedSimpArgs false
/-- What is kept, as it lies in memory, and as it is meant. -/
structure Kv where
  ver : Int
  sv : Value
  dv : Value
  rv : Value
instance : Inhabited Kv := ⟨⟨0, .slice none 0 0, .slice none 0 0, .slice none 0 0⟩⟩
def encK (x : Kv) : List Value := [.int .i64 x.ver, x.sv, x.dv, x.rv]
theorem encK_len (x : Kv) : (encK x).length = 4 := rfl
structure Kept where
  ver : Int
  seeds : List Seed
  dist : List Int
  dirs : List Int
instance : Inhabited Kept := ⟨⟨0, [], [], []⟩⟩
abbrev RowS (w : World) (base : Nat) (ok : Nat → Prop) (v : Value) (l : List Seed) : Prop := Kd.R k25 25 w base ok v l
structure KeptM (w : World) (own : Nat → Prop) (x : Kv) (y : Kept) : Prop where
  ver : x.ver = y.ver
  seeds : RowS w 0 own x.sv y.seeds
  dist : RowI w 0 own x.dv y.dist
  dirs : RowI w 0 own x.rv y.dirs
  len : y.seeds.length ≤ 1000 ∧ y.dist.length ≤ 1000 ∧ y.dirs.length ≤ 1000
theorem KeptM.zero (w : World) (own : Nat → Prop) : KeptM w own default default := ⟨rfl, Kd.R_nil _ _ _ _ _, Kd.R_nil _ _ _ _ _, Kd.R_nil _ _ _ _ _, by decide⟩
/-- Blocks that hold neither seeds nor numbers. -/
def Odd (w : World) (S : Nat → Prop) : Prop := ∀ k, S k → ∀ cs, w.heap[k]? ≠ some (.cells cs 25 (0, 0)) ∧ w.heap[k]? ≠ some (.cells cs 3 (0, 0))
variable {w w' : World} {own own' S : Nat → Prop} {x : Kv} {y : Kept}
theorem KeptM.mono (h : KeptM w own x y) (ho : ∀ k, own k → own' k) : KeptM w own' x y := ⟨h.ver, Kd.R_mono h.seeds ho, Kd.R_mono h.dist ho, Kd.R_mono h.dirs ho, h.len⟩
theorem KeptM.chg (h : KeptM w own x y) (hc : Chg S w w') (hn : ∀ k, own k → ¬ S k) : KeptM w' own x y := ⟨h.ver, hc.R h.seeds hn, hc.R h.dist hn, hc.R h.dirs hn, h.len⟩
theorem KeptM.odd (h : KeptM w own x y) (hc : Chg S w w') (hn : Odd w S) : KeptM w' own x y := by
  refine ⟨h.ver, ?_, ?_, ?_, h.len⟩
  · refine Kd.R_mono (hc.R (Kd.R_bound h.seeds) (fun k hk hs => ?_)) (fun _ hk => hk.1)
    obtain ⟨_, _, _, q, hq, cs, hcs⟩ := hk
    have hq' : q = 25 := by simpa [Kd.E, k25, Kd.iso, Kd.pair, Kd.int, Kd.scalar] using hq
    subst hq'
    exact (hn k hs cs).1 hcs
  · refine Kd.R_mono (hc.R (Kd.R_bound h.dist) (fun k hk hs => ?_)) (fun _ hk => hk.1)
    obtain ⟨_, _, _, q, hq, cs, hcs⟩ := hk
    have hq' : q = 3 := by simpa [Kd.E, Kd.int, Kd.scalar] using hq
    subst hq'
    exact (hn k hs cs).2 hcs
  · refine Kd.R_mono (hc.R (Kd.R_bound h.dirs) (fun k hk hs => ?_)) (fun _ hk => hk.1)
    obtain ⟨_, _, _, q, hq, cs, hcs⟩ := hk
    have hq' : q = 3 := by simpa [Kd.E, Kd.int, Kd.scalar] using hq
    subst hq'
    exact (hn k hs cs).2 hcs
theorem Odd.of_blk {t : TypeId} (h1 : t ≠ 25) (h2 : t ≠ 3) (h : ∀ k, S k → ∃ cs, w.heap[k]? = some (.cells cs t (0, 0))) : Odd w S := by
  intro k hk cs
  obtain ⟨cs', h⟩ := h k hk
  rw [h]
  constructor
  · intro e
    injection e with e
    injection e with _ e _
    exact h1 e
  · intro e
    injection e with e
    injection e with _ e _
    exact h2 e
/-- The row of what is kept. -/
def FieldsM (w : World) (fv : Value) (kvs : List Kv) : Prop :=
  (fv = .slice none 0 0 ∧ kvs = []) ∨ ∃ g cap, fv = .slice (some ⟨g, 0, none⟩) kvs.length cap ∧ cap ≤ maxLen ∧ RowIn encK 4 120 g cap kvs.toArray w
variable {fv : Value} {kvs : List Kv} {kps : List Kept}
theorem FieldsM.slice (h : FieldsM w fv kvs) : ∃ A cap, fv = .slice A kvs.length cap := by
  rcases h with ⟨rfl, rfl⟩ | ⟨g, cap, rfl, _⟩
  · exact ⟨none, 0, rfl⟩
  · exact ⟨_, _, rfl⟩
theorem FieldsM.lt (h : FieldsM w fv kvs) {b : Nat} (hb : fv.ownBlock = some b) : b < w.heap.size ∧ ∃ cs, w.heap[b]? = some (.cells cs 120 (0, 0)) := by
  rcases h with ⟨rfl, rfl⟩ | ⟨g, cap, rfl, _, h2⟩
  · simp [Value.ownBlock] at hb
  · have : g = b := by simpa [Value.ownBlock] using hb
    subst this
    obtain ⟨cs, h3, _⟩ := h2
    exact ⟨blk_lt h3, cs, h3⟩
theorem FieldsM.heap (h : FieldsM w fv kvs) (hb : ∀ b, fv.ownBlock = some b → w'.heap[b]? = w.heap[b]?) : FieldsM w' fv kvs := by
  rcases h with h | ⟨g, cap, rfl, h2, h3⟩
  · exact .inl h
  · exact .inr ⟨g, cap, rfl, h2, RowIn.heap h3 (hb g (by simp [Value.ownBlock]))⟩
theorem FieldsM.cells (h : FieldsM w fv kvs) {i : Nat} (hi : i < kvs.length) :
    ∃ g cap, fv = .slice (some ⟨g, 0, none⟩) kvs.length cap ∧ w.cell? ⟨g, i * 4, none⟩ = some (.int .i64 kvs[i].ver) ∧ w.cell? ⟨g, i * 4 + 1, none⟩ = some kvs[i].sv ∧ w.cell? ⟨g, i * 4 + 2, none⟩ = some kvs[i].dv ∧ w.cell? ⟨g, i * 4 + 3, none⟩ = some kvs[i].rv ∧ ∀ o, w.frozen? ⟨g, o, none⟩ = false := by
  rcases h with ⟨_, rfl⟩ | ⟨g, cap, rfl, h2, h3⟩
  · simp at hi
  · have hi' : i < kvs.toArray.size := by simpa using hi
    have e : kvs.toArray[i]! = kvs[i] := by rw [getElem!_pos kvs.toArray i hi']; simp
    have hc : ∀ c, c < 4 → ∀ u, (encK kvs[i])[c]? = some u → w.cell? ⟨g, i * 4 + c, none⟩ = some u := fun c hc u hu => RowIn.cell h3 hi' hc (by rw [e]; exact hu)
    exact ⟨g, cap, rfl, hc 0 (by omega) _ rfl, hc 1 (by omega) _ rfl, hc 2 (by omega) _ rfl, hc 3 (by omega) _ rfl, fun o => RowIn.free h3 o⟩
theorem FieldsM.put {g cap : Nat} (h : FieldsM w (.slice (some ⟨g, 0, none⟩) kvs.length cap) kvs) {i : Nat} (hi : i < kvs.length) {c : Nat} (hc : c < 4) (u : Value) (x : Kv) (hx : encK x = (encK kvs[i]).set c u) :
    FieldsM (w.setCell ⟨g, i * 4 + c, none⟩ u) (.slice (some ⟨g, 0, none⟩) (kvs.set i x).length cap) (kvs.set i x) := by
  rcases h with ⟨h, _⟩ | ⟨g', cap', e0, h2, h3⟩
  · injection h with h _ _; cases h
  · injection e0 with e1 _ e2
    injection e1 with e1
    injection e1 with e1 _ _
    subst e1
    subst e2
    have hi' : i < kvs.toArray.size := by simpa using hi
    have e : kvs.toArray[i]! = kvs[i] := by rw [getElem!_pos kvs.toArray i hi']; simp
    refine .inr ⟨g, cap, rfl, h2, ?_⟩
    have := RowIn.store1 h3 hi' hc u x (by rw [e]; rfl) (by rw [e]; exact hx)
    rw [List.setIfInBounds_toArray] at this
    exact this
theorem FieldsM.owns (h : FieldsM w fv kvs) : w.ownsRow 0 120 4 fv kvs.length (kvs.flatMap encK) := by
  rcases h with ⟨rfl, rfl⟩ | ⟨g, cap, rfl, h2, h3⟩
  · exact ⟨by simp, .inl ⟨rfl, rfl⟩⟩
  · exact RowIn_ownsRow encK_len h3 (Nat.zero_le _) h2
theorem FieldsM.of_owns {l : List Kv} {inner : List Value} (h : w.ownsRow 0 120 4 fv l.length inner) (hi : inner = l.flatMap encK) : FieldsM w fv l := by
  rcases ownsRow_RowIn encK_len h hi with ⟨rfl, rfl⟩ | ⟨B, cap, rfl, h1, h2, h3⟩
  · exact .inl ⟨rfl, rfl⟩
  · exact .inr ⟨B, cap, rfl, h2, h3⟩
structure Cnt where
  re : Int
  se : Int
  bu : Int
  hi : Int
  st : Int
  ev : Int
def Cnt.ok (c : Cnt) : Prop := (0 ≤ c.re ∧ c.re ≤ 1000000) ∧ (0 ≤ c.se ∧ c.se ≤ 1000000) ∧ (0 ≤ c.bu ∧ c.bu ≤ 1000000) ∧ (0 ≤ c.hi ∧ c.hi ≤ 1000000) ∧ (0 ≤ c.st ∧ c.st ≤ 1000000) ∧ (0 ≤ c.ev ∧ c.ev ≤ 1000000)
def shCells (lb : Nat) (fv : Value) (c : Cnt) : Array Value := #[.pointer (some ⟨lb, 0, none⟩), fv, .int .u64 c.re, .int .u64 c.se, .int .u64 c.bu, .int .u64 c.hi, .int .u64 c.st, .int .u64 c.ev]
/-- The shelf: all its blocks are among its own. -/
structure ShelfM (w : World) (own : Nat → Prop) (sb lb : Nat) (k : Int) (sv : Value) (mb : Nat) (seats : List Seat) (nw od : Int) (D : DataW Unit) (ord : List Nat) (fv : Value) (kvs : List Kv) (kps : List Kept) (c : Cnt) : Prop where
  blk : w.heap[sb]? = some (.cells (shCells lb fv c) 116 (0, 0))
  lru : LruOk w lb 0 k sv mb seats nw od D ord
  flds : FieldsM w fv kvs
  klen : kps.length = kvs.length
  kept : ∀ i, i < kvs.length → KeptM w own (kvs.getD i default) (kps.getD i default)
  ownB : own sb
  ownL : ∀ b, LruS lb mb sv b → own b
  ownF : ∀ b, fv.ownBlock = some b → own b
variable {sb lb mb : Nat} {k : Int} {sv : Value} {seats : List Seat} {nw od : Int} {D : DataW Unit} {ord : List Nat} {c : Cnt}
theorem LruM.lt (h : LruM w lb 0 k sv mb seats nw od D) {b : Nat} (hb : LruS lb mb sv b) : b < w.heap.size := by
  rcases hb with rfl | rfl | hb
  · exact blk_lt h.blk
  · exact h.map.lt
  · exact (h.seats.lt hb).2.1
theorem LruM.odd (h : LruM w lb 0 k sv mb seats nw od D) : Odd w (LruS lb mb sv) := by
  rintro k (rfl | rfl | hb)
  · exact Odd.of_blk (S := fun b => b = k) (t := 150) (by decide) (by decide) (fun b hb => by subst hb; exact ⟨_, h.blk⟩) k rfl
  · intro cs
    obtain ⟨es, clock, h1, _⟩ := h.map
    rw [h1]
    constructor <;> (intro e; injection e with e; cases e)
  · exact Odd.of_blk (S := fun b => b = k) (t := 153) (by decide) (by decide) (fun b hb' => by rw [hb']; exact (h.seats.lt hb).2.2) k rfl
theorem ShelfM.lt (h : ShelfM w own sb lb k sv mb seats nw od D ord fv kvs kps c) : sb < w.heap.size := blk_lt h.blk
/-- Who writes no block of the shelf's leaves it. -/
theorem ShelfM.chg (h : ShelfM w own sb lb k sv mb seats nw od D ord fv kvs kps c) (hc : Chg S w w') (hn : ∀ b, own b → ¬ S b) : ShelfM w' own sb lb k sv mb seats nw od D ord fv kvs kps c where
  blk := hc.blk h.blk (hn _ h.ownB)
  lru := { h.lru with m := h.lru.m.chg hc (fun b hb => hn b (h.ownL b hb)) }
  flds := h.flds.heap (fun b hb => hc.block b (h.flds.lt hb).1 (hn b (h.ownF b hb)))
  klen := h.klen
  kept i hi := (h.kept i hi).chg hc hn
  ownB := h.ownB
  ownL := h.ownL
  ownF := h.ownF
theorem ShelfM.below (h : ShelfM w own sb lb k sv mb seats nw od D ord fv kvs kps c) (hb : Below w.heap.size w w') : ShelfM w' own sb lb k sv mb seats nw od D ord fv kvs kps c := h.chg (Chg.of_below hb (fun _ => False)) (fun _ _ h => h)
theorem ShelfM.mono (h : ShelfM w own sb lb k sv mb seats nw od D ord fv kvs kps c) (ho : ∀ b, own b → own' b) : ShelfM w own' sb lb k sv mb seats nw od D ord fv kvs kps c :=
  { h with kept := fun i hi => (h.kept i hi).mono ho, ownB := ho _ h.ownB, ownL := fun b hb => ho b (h.ownL b hb), ownF := fun b hb => ho b (h.ownF b hb) }
theorem ShelfM.apart (h : ShelfM w own sb lb k sv mb seats nw od D ord fv kvs kps c) : (∀ b, LruS lb mb sv b → b ≠ sb) ∧ (∀ b, LruS lb mb sv b → fv.ownBlock ≠ some b) ∧ fv.ownBlock ≠ some sb := by
  have hf : ∀ b, fv.ownBlock = some b → ∃ cs, w.heap[b]? = some (.cells cs 120 (0, 0)) := fun b hb => (h.flds.lt hb).2
  have hl : ∀ b, LruS lb mb sv b → ∀ cs t, t = 116 ∨ t = 120 → w.heap[b]? ≠ some (.cells cs t (0, 0)) := by
    rintro b (rfl | rfl | hb) cs t ht e
    · rw [h.lru.m.blk] at e
      injection e with e
      injection e with _ e _
      rcases ht with rfl | rfl <;> exact absurd e (by decide)
    · obtain ⟨es, clock, h1, _⟩ := h.lru.m.map
      rw [h1] at e
      injection e with e
      cases e
    · obtain ⟨cs', h1⟩ := (h.lru.m.seats.lt hb).2.2
      rw [h1] at e
      injection e with e
      injection e with _ e _
      rcases ht with rfl | rfl <;> exact absurd e (by decide)
  refine ⟨fun b hb e => by subst e; exact hl _ hb _ _ (.inl rfl) h.blk, fun b hb e => ?_, fun e => ?_⟩
  · obtain ⟨cs, h1⟩ := hf b e
    exact hl b hb cs _ (.inr rfl) h1
  · obtain ⟨cs, h1⟩ := hf sb e
    rw [h.blk] at h1
    injection h1 with h1
    injection h1 with _ h1 _
    exact absurd h1 (by decide)
/-- The lru does a step. -/
theorem ShelfM.turn {sv' : Value} {seats' : List Seat} {nw' od' : Int} {D' : DataW Unit} {ord' : List Nat} (h : ShelfM w own sb lb k sv mb seats nw od D ord fv kvs kps c) (hl : LruOk w' lb 0 k sv' mb seats' nw' od' D' ord') (hc : Chg (LruS lb mb sv) w w') (ho : ∀ b, own b → own' b) (hs : ∀ b, LruS lb mb sv' b → own' b) : ShelfM w' own' sb lb k sv' mb seats' nw' od' D' ord' fv kvs kps c where
  blk := hc.blk h.blk (fun hb => h.apart.1 sb hb rfl)
  lru := hl
  flds := h.flds.heap (fun b hb => hc.block b (h.flds.lt hb).1 (fun e => h.apart.2.1 b e hb))
  klen := h.klen
  kept i hi := ((h.kept i hi).odd hc h.lru.m.odd).mono ho
  ownB := ho _ h.ownB
  ownL := hs
  ownF b hb := ho b (h.ownF b hb)
/-- A cell of the shelf's own block is written. -/
theorem ShelfM.put {fv' : Value} {c' : Cnt} {j : Nat} {u : Value} (h : ShelfM w own sb lb k sv mb seats nw od D ord fv kvs kps c) (he : shCells lb fv' c' = (shCells lb fv c).setIfInBounds j u) (hf : fv' = fv) : ShelfM (w.setCell ⟨sb, j, none⟩ u) own sb lb k sv mb seats nw od D ord fv' kvs kps c' := by
  have hc : Chg (fun b => b = sb) w (w.setCell ⟨sb, j, none⟩ u) := (Chg.refl (fun b => b = sb) w).set_ (.inl rfl) _
  subst hf
  exact
  { blk := by rw [he]; exact set_blk h.blk j u
    lru := { h.lru with m := h.lru.m.chg hc (fun b hb e => h.apart.1 b hb e) }
    flds := h.flds.heap (fun b hb => hc.block b (h.flds.lt hb).1 (fun e => h.apart.2.2 (by rw [← e]; exact hb)))
    klen := h.klen
    kept := fun i hi => (h.kept i hi).odd hc (Odd.of_blk (t := 116) (by decide) (by decide) (fun b hb => by subst hb; exact ⟨_, h.blk⟩))
    ownB := h.ownB
    ownL := h.ownL
    ownF := h.ownF }
theorem FieldsM.odd (h : FieldsM w fv kvs) : Odd w (fun b => fv.ownBlock = some b) := Odd.of_blk (t := 120) (by decide) (by decide) (fun b hb => (h.lt hb).2)
/-- The row of what is kept, grown by one that is nothing yet. -/
theorem ShelfM.grow {v1 : Value} (h : ShelfM w own sb lb k sv mb seats nw od D ord fv kvs kps c) (hg : w.grownBy w' fv.ownBlock) (ho : FieldsM w' v1 (kvs ++ [default])) (how : ∀ b, own b → own' b) (hv : ∀ b, v1.ownBlock = some b → own' b) :
    ShelfM (w'.setCell ⟨sb, 1, none⟩ v1) own' sb lb k sv mb seats nw od D ord v1 (kvs ++ [default]) (kps ++ [default]) c := by
  have hc1 : Chg (fun b => fv.ownBlock = some b) w w' := Chg.of_grown hg (fun k hk => hk)
  have hb1 : w'.heap[sb]? = some (.cells (shCells lb fv c) 116 (0, 0)) := hc1.blk h.blk (fun e => h.apart.2.2 e)
  have hc2 : Chg (fun b => b = sb) w' (w'.setCell ⟨sb, 1, none⟩ v1) := (Chg.refl (fun b => b = sb) w').set_ (.inl rfl) _
  have hl1 : LruM w' lb 0 k sv mb seats nw od D := h.lru.m.chg hc1 (fun b hb e => h.apart.2.1 b hb e)
  have ho2 : Odd w' (fun b => b = sb) := Odd.of_blk (t := 116) (by decide) (by decide) (fun b hb => by subst hb; exact ⟨_, hb1⟩)
  exact
  { blk := by
      have := set_blk hb1 1 v1
      exact this
    lru := { h.lru with m := hl1.chg hc2 (fun b hb e => h.apart.1 b hb e) }
    flds := ho.heap (fun b hb => hc2.block b (ho.lt hb).1 (fun e => by
      obtain ⟨cs, h1⟩ := (ho.lt hb).2
      have e' : b = sb := e
      rw [e', hb1] at h1
      injection h1 with h1
      injection h1 with _ h1 _
      exact absurd h1 (by decide)))
    klen := by simp [h.klen]
    kept := fun i hi => by
      by_cases e : i < kvs.length
      · have := (((h.kept i e).odd hc1 h.flds.odd).odd hc2 ho2).mono how
        simp only [List.getD_eq_getElem?_getD] at this ⊢
        rw [List.getElem?_append_left e, List.getElem?_append_left (by rw [h.klen]; exact e)]
        exact this
      · have e2 : i = kvs.length := by simp at hi; omega
        subst e2
        have h1 : (kvs ++ [default]).getD kvs.length default = (default : Kv) := by simp [List.getD_eq_getElem?_getD]
        have h2 : (kps ++ [default]).getD kvs.length default = (default : Kept) := by rw [← h.klen]; simp [List.getD_eq_getElem?_getD]
        rw [h1, h2]
        exact KeptM.zero _ _
    ownB := how _ h.ownB
    ownL := fun b hb => how b (h.ownL b hb)
    ownF := hv }
/-- What is kept in a slot is written anew. -/
theorem ShelfM.store {g cap : Nat} {i : Nat} {x : Kv} {y : Kept} (h : ShelfM w own sb lb k sv mb seats nw od D ord (.slice (some ⟨g, 0, none⟩) kvs.length cap) kvs kps c) (hi : i < kvs.length) (hy : KeptM w own x y) :
    ShelfM ((((w.setCell ⟨g, i * 4, none⟩ (.int .i64 x.ver)).setCell ⟨g, i * 4 + 1, none⟩ x.sv).setCell ⟨g, i * 4 + 2, none⟩ x.dv).setCell ⟨g, i * 4 + 3, none⟩ x.rv) own sb lb k sv mb seats nw od D ord (.slice (some ⟨g, 0, none⟩) (kvs.set i x).length cap) (kvs.set i x) (kps.set i y) c := by
  have h1 := FieldsM.put h.flds hi (c := 0) (by omega) (.int .i64 x.ver) { kvs[i] with ver := x.ver } rfl
  have h2 := FieldsM.put h1 (i := i) (by simpa using hi) (c := 1) (by omega) x.sv { kvs[i] with ver := x.ver, sv := x.sv } (by simp [encK])
  have h3 := FieldsM.put h2 (i := i) (by simpa using hi) (c := 2) (by omega) x.dv { kvs[i] with ver := x.ver, sv := x.sv, dv := x.dv } (by simp [encK])
  have h4 := FieldsM.put h3 (i := i) (by simpa using hi) (c := 3) (by omega) x.rv x (by simp [encK])
  simp only [List.set_set, Nat.add_zero] at h4
  have hc : Chg (fun b => b = g) w ((((w.setCell ⟨g, i * 4, none⟩ (.int .i64 x.ver)).setCell ⟨g, i * 4 + 1, none⟩ x.sv).setCell ⟨g, i * 4 + 2, none⟩ x.dv).setCell ⟨g, i * 4 + 3, none⟩ x.rv) :=
    ((((Chg.refl (fun b => b = g) w).set_ (.inl rfl) _).set_ (.inl rfl) _).set_ (.inl rfl) _).set_ (.inl rfl) _
  have hod : Odd w (fun b => b = g) := fun b hb => h.flds.odd b (by show some _ = some b; rw [show b = g from hb])
  exact
  { blk := by rw [List.length_set]; exact hc.blk h.blk (fun e => h.apart.2.2 (by show some g = some sb; rw [show sb = g from e]))
    lru := { h.lru with m := h.lru.m.chg hc (fun b hb e => h.apart.2.1 b hb (by show some g = some b; rw [show b = g from e])) }
    flds := h4
    klen := by simp [h.klen]
    kept := fun j hj => by
      have hj' : j < kvs.length := by simpa using hj
      simp only [List.getD_eq_getElem?_getD, List.getElem?_set]
      by_cases e : i = j
      · subst e
        rw [if_pos rfl, if_pos rfl, if_pos (by omega), if_pos (by rw [h.klen]; omega)]
        exact hy.odd hc hod
      · rw [if_neg e, if_neg e]
        have := (h.kept j hj').odd hc hod
        simpa only [List.getD_eq_getElem?_getD] using this
    ownB := h.ownB
    ownL := h.ownL
    ownF := fun b hb => h.ownF b (by simpa using hb) }
end Go.Proofs.Ytgcfcemgeppkmaa.P
namespace Go.Proofs.Ytgcfcemgeppkmaa.P
open Go.RowKit Go.Proofs.YtgcfcemgeppkmaaW.PrintWords Go.Proofs.YtgcfcemgeppkmaaW.PrintLast Go.Proofs.YtgcfcemgeppkmaaW.PrintMore
set_option linter.unusedVariables false
set_option linter.unusedSimpArgs false
theorem rdT_get78 (xs : List Seed) {i : Nat} (h : i < xs.length) : rd_T25 xs (i : Int) = xs[i] := by
  unfold rd_T25
  rw [Int.toNat_natCast, List.getD_eq_getElem?_getD, List.getElem?_eq_getElem h]
  rfl
theorem beq_not78 (x y : Seed) : (!(x.f0 == y.f0) || (!(x.f1 == y.f1) || (!(x.f2 == y.f2)))) = !decide (x = y) := by
  rw [← seed_beq]
  cases x.f0 == y.f0 <;> cases x.f1 == y.f1 <;> cases x.f2 == y.f2 <;> rfl
theorem same_l0_78 (a b : List Seed) (hl : a.length = b.length) (hb : a.length ≤ 1000000) : ∀ (d i k : Nat), i + d = a.length → d < k → api_Seed_78.l0 k a b (a.length : Int) (i : Int) = some (decide (a.drop i = b.drop i)) := by
  intro d
  induction d with
  | zero =>
    intro i k hi hk
    obtain ⟨k, rfl⟩ : ∃ m, k = m + 1 := ⟨k - 1, by omega⟩
    rw [api_Seed_78.l0, if_neg (by omega), List.drop_eq_nil_of_le (by omega), List.drop_eq_nil_of_le (by omega)]
    simp
  | succ d ih =>
    intro i k hi hk
    obtain ⟨k, rfl⟩ : ∃ m, k = m + 1 := ⟨k - 1, by omega⟩
    have h1 : i < a.length := by omega
    have h2 : i < b.length := by omega
    have hn := ih (i + 1) k (by omega) (by omega)
    rw [api_Seed_78.l0, if_pos (by omega), if_pos (by omega), if_pos (by omega), if_pos (by omega), rdT_get78 a h1, rdT_get78 b h2, beq_not78, w64 (n := (i : Int) + 1) (by omega) (by omega), List.drop_eq_getElem_cons h1, List.drop_eq_getElem_cons h2]
    by_cases e : a[i] = b[i]
    · rw [if_neg (by simp [e])]
      refine hn.trans (congrArg some (decide_eq_decide.2 ?_))
      rw [e]
      exact ⟨fun h => by rw [h], fun h => (List.cons.inj h).2⟩
    · rw [if_pos (by simp [e])]
      exact congrArg some (decide_eq_false (fun h => e (List.cons.inj h).1)).symm
theorem eq_some78 (a b : List Seed) (ha : a.length ≤ 1000000) (k : Nat) (hk : a.length < k) : api_Seed_78.f k a b = some (decide (a = b)) := by
  unfold api_Seed_78.f
  by_cases hl : a.length = b.length
  · rw [if_pos (by omega)]
    have := same_l0_78 a b hl ha a.length 0 k (by omega) hk
    simpa using this
  · rw [if_neg (by omega)]
    exact congrArg some (decide_eq_false (fun h => hl (by rw [h]))).symm
theorem same_some78 (a b : List Seed) (ha : a.length ≤ 1000000) (k : Nat) (hk : a.length < k) : seeds_Same.f k a b = some (decide (a = b)) := by
  unfold seeds_Same.f
  rw [eq_some78 a b ha k hk, Option.bind_some]
end Go.Proofs.Ytgcfcemgeppkmaa.P
