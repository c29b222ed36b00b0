/-
 WALKED BY HAND: slices.Clone of ints; the mesh: Nodes.
-/
import Derived.Test.YthgehdembghdaaaGreatXMesh3
namespace Go.Proofs.YthgehdembghdaaaGreat.P
open Go.RowKit Go.Proofs.YthgehdembghdaaaGreatW.PrintWords Go.Proofs.YthgehdembghdaaaGreatW.PrintLast Go.Proofs.YthgehdembghdaaaGreatW.PrintMore
open Go.Proofs.YthgehdembghdaaaGreat.Geo Go.Proofs.YthgehdembghdaaaGreat.Dist
set_option linter.unusedVariables false
set_option linter.unusedSimpArgs false
set_option maxHeartbeats 1000000 in
theorem cloneN_nil (n c : Nat) (w : World) : Calls Tryz.prog 75 #[.slice none n c] w fun e w' => e = .returned (.slice none 0 0) ∧ w' = w := by
 have q22 : ∀ (w : World) (a : Option Addr) (n c n' c' : Nat), Sem.run Tryz.prog (binOp .eql 36 (.slice a n c) (.slice none n' c')) w = .ok (.bool a.isNone) w := fun w a n c n' c' => Lib.run_eql_slice_nil w _ _ a n c n' c' Tryz.underlying36
 go_enter Tryz.func75, Tryz.ntmps75
 go_wp2
 go_ret
 exact ⟨rfl, rfl⟩
set_option maxHeartbeats 1000000 in
theorem cloneN_some (ad : Addr) (c : Nat) (l : List Int) (w : World) (hC : Kd.C (Kd.int .i64) w (some ad) l.length l) (hl : l.length < 5864062014805) :
  Calls Tryz.prog 75 #[.slice (some ad) l.length c] w fun e w' => ∃ v, e = .returned v ∧ Kd.R (Kd.int .i64) 3 w' w.heap.size (fun _ => True) v l ∧ Below w.heap.size w w' := by
 have q22 : ∀ (w : World) (a : Option Addr) (n c n' c' : Nat), Sem.run Tryz.prog (binOp .eql 36 (.slice a n c) (.slice none n' c')) w = .ok (.bool a.isNone) w := fun w a n c n' c' => Lib.run_eql_slice_nil w _ _ a n c n' c' Tryz.underlying36
 have HB := Aside0.mk (Below.refl w.heap.size w)
 have HR := Aside0.mk hC
 have HL := Aside0.mk hl
 clear hC hl
 go_enter Tryz.func75, Tryz.ntmps75
 go_wp2_with (first | ((with_reducible refine gate_dst (N := 5) rfl ?_); refine Kd.R_lit (Kd.int .i64) _ 3 ?hg (N := 5) ?hd (xs := ([] : List Int)) (inner := []) (ok := fun _ => True) (okp := fun _ => True) ?hr ?hp (fun _ hk => hk) trivial (Below.refl _ _) (Nat.le_refl _) (by simp) ?_; (case hd => rfl); (case hg => rfl); (case hr => first | (go_simp; done) | (go_simp; rfl)); (case hp => exact (Reps.none _ _)); intro v1 w1 ho hb hg_ hnew_; clear hg_ hnew_; have n0_ := Aside0.mk (Kd.R_lower ho (below_size (by repeat (first | (with_reducible first | exact HB.out | apply below_alloc | apply pw_below_drewN | apply below_drew1) | exact HB.out)))); have n1_ := Aside0.mk (below_step (by repeat (first | (with_reducible first | exact HB.out | apply below_alloc | apply pw_below_drewN | apply below_drew1) | exact HB.out)) hb); clear HB; have HO := n0_; have HB := n1_; clear n0_ n1_; clear hb ho) | ((with_reducible refine gate_builtin (b := .append) (xs := #[.tmp 5, .tmp 6]) rfl ?_); at_builtin; refine Kd.R_append_rows (Kd.int .i64) (w0 := w) w.heap.size rfl (.tmp 5) (.tmp 6) 36 3 (.int .i64 0) 8 rfl Tryz.underlying36 info3 rfl (by decide) (by omega) v1 ([] : List Int) l _ _ _ (fun _ => True) (fun _ => False) rfl rfl ?aO ?aR (fun _ _ h => h) (fun _ h => h.elim) ?aF ?aB ?aS ?aL ?_; (case aR => exact Kd.C_below HR.out HB.out); (case aB => exact HB.out); (case aF => exact (fun _ _ => trivial)); (case aO => exact HO.out); (case aS => exact below_size HB.out); (case aL => have := HL.out; simp only [List.length_nil]; omega); intro v2 w2 ho hb hg hat; have n0_ := Aside0.mk (hb); have n1_ := Aside0.mk (ho); clear HB; clear HO; have HB := n0_; have HO := n1_; clear n0_ n1_; clear ho hb hg hat))
 go_ret
 exact ⟨_, rfl, HO.out, HB.out⟩
theorem cloneN_calls (A : Option Addr) (c : Nat) (l : List Int) (w : World) (h : Kd.C (Kd.int .i64) w A l.length l) (hl : l.length ≤ 1000000) :
  Calls Tryz.prog 75 #[.slice A l.length c] w fun e w' => ∃ v, e = .returned v ∧ RowN w' w.heap.size v l ∧ Below w.heap.size w w' := by
 cases A with
 | none =>
  obtain rfl := C_none h
  exact (cloneN_nil _ _ w).mono fun _ _ ⟨he, hw⟩ => ⟨_, he, Kd.R_nil _ _ _ _ _, by rw [hw]; exact Below.refl _ _⟩
 | some ad => exact cloneN_some ad c l w h (by omega)
variable {w w' : World} {g : Gb} {s : GridS} {m : Mb} {x : MeshS}
set_option maxHeartbeats 4000000 in
theorem mNodes_calls (h : Net w g m s x) {i : Nat} (hi : i < x.ps.length) : Calls Tryz.prog 26 #[.pointer (some ⟨m.xb, 0, none⟩), .int .i64 i] w fun e w' => ∃ v, e = .returned v ∧ RowN w' w.heap.size v (x.ps.getD i default).nodes ∧ Below w.heap.size w w' := by
 obtain ⟨_, c1, _, _⟩ := h.cells
 obtain ⟨nv, dv, _, p1, _, hp⟩ := h.part hi
 have hn := cnt_le h.grid.ok.dim
 have hl := h.len
 have d1 : (i : Int) < (x.ps.length : Int) := by omega
 have e1 : (0 : Int) ≤ (i : Int) := by omega
 obtain ⟨An, nn, en⟩ := Kd.R_slice hp.nodes
 have en' : nv = .slice An (x.ps.getD i default).nodes.length nn := en
 subst en'
 obtain ⟨N, hN⟩ : ∃ N, N = (x.ps.getD i default).nodes := ⟨_, rfl⟩
 have HC := Aside0.mk (Kd.R_reads' hp.nodes).2.2
 have HL := Aside0.mk hp.len.1
 rw [← hN] at p1 HC HL ⊢
 clear h hp en hN hn
 go_enter Tryz.func26, Tryz.ntmps26
 go_wp2_with (go_at_call 75; refine (cloneN_calls An nn N _ HC.out (by have := HL.out; omega)).mono ?_; rintro e w1 ⟨v1, rfl, ho, hb⟩; have HO := Aside0.mk ho; have HB := Aside0.mk hb; clear ho hb)
 go_ret
 exact ⟨_, rfl, HO.out, HB.out⟩
end Go.Proofs.YthgehdembghdaaaGreat.P
