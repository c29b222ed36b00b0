import Derived.Test.YthgehdembghdaaaGreatXMesh3
import Derived.Test.YthgehdembghdaaaGreatXFind1
import Derived.Lib.Builder
import Derived.Test.YthgehdembghdaaaGreatXInto1
import Derived.Test.YthgehdembghdaaaGreatJ18
import Derived.Test.YthgehdembghdaaaGreatJ16
namespace Go.Proofs.YthgehdembghdaaaGreat.P
open Go.RowKit Go.Proofs.YthgehdembghdaaaGreatW.PrintWords Go.Proofs.YthgehdembghdaaaGreatW.PrintLast Go.Proofs.YthgehdembghdaaaGreatW.PrintMore
open Go.Proofs.YthgehdembghdaaaGreat.Geo Go.Proofs.YthgehdembghdaaaGreat.Dist
set_option linter.unusedVariables false
set_option linter.unusedSimpArgs false
set_option maxHeartbeats 1000000 in
theorem cloneN_nil (n c : Nat) (w : World) : Calls Tryz.prog 75 #[.slice none n c] w fun e w' => e = .returned (.slice none 0 0) ∧ w' = w := by
 have q22 : ∀ (w : World) (a : Option Addr) (n c n' c' : Nat), Sem.run Tryz.prog (binOp .eql 36 (.slice a n c) (.slice none n' c')) w = .ok (.bool a.isNone) w := fun w a n c n' c' => Lib.run_eql_slice_nil w _ _ a n c n' c' Tryz.underlying36
 go_enter Tryz.func75, Tryz.ntmps75
 go_wp2
 go_ret
 exact ⟨rfl, rfl⟩
set_option maxHeartbeats 1000000 in
theorem cloneN_some (ad : Addr) (c : Nat) (l : List Int) (w : World) (hC : Kd.C (Kd.int .i64) w (some ad) l.length l) (hl : l.length < 5864062014805) :
  Calls Tryz.prog 75 #[.slice (some ad) l.length c] w fun e w' => ∃ v, e = .returned v ∧ Kd.R (Kd.int .i64) 3 w' w.heap.size (fun _ => True) v l ∧ Below w.heap.size w w' := by
 have q22 : ∀ (w : World) (a : Option Addr) (n c n' c' : Nat), Sem.run Tryz.prog (binOp .eql 36 (.slice a n c) (.slice none n' c')) w = .ok (.bool a.isNone) w := fun w a n c n' c' => Lib.run_eql_slice_nil w _ _ a n c n' c' Tryz.underlying36
 have HB := Aside0.mk (Below.refl w.heap.size w)
 have HR := Aside0.mk hC
 have HL := Aside0.mk hl
 clear hC hl
 go_enter Tryz.func75, Tryz.ntmps75
 go_wp2_with (first | ((with_reducible refine gate_dst (N := 5) rfl ?_); refine Kd.R_lit (Kd.int .i64) _ 3 ?hg (N := 5) ?hd (xs := ([] : List Int)) (inner := []) (ok := fun _ => True) (okp := fun _ => True) ?hr ?hp (fun _ hk => hk) trivial (Below.refl _ _) (Nat.le_refl _) (by simp) ?_; (case hd => rfl); (case hg => rfl); (case hr => first | (go_simp; done) | (go_simp; rfl)); (case hp => exact (Reps.none _ _)); intro v1 w1 ho hb hg_ hnew_; clear hg_ hnew_; have n0_ := Aside0.mk (Kd.R_lower ho (below_size (by repeat (first | (with_reducible first | exact HB.out | apply below_alloc | apply pw_below_drewN | apply below_drew1) | exact HB.out)))); have n1_ := Aside0.mk (below_step (by repeat (first | (with_reducible first | exact HB.out | apply below_alloc | apply pw_below_drewN | apply below_drew1) | exact HB.out)) hb); clear HB; have HO := n0_; have HB := n1_; clear n0_ n1_; clear hb ho) | ((with_reducible refine gate_builtin (b := .append) (xs := #[.tmp 5, .tmp 6]) rfl ?_); at_builtin; refine Kd.R_append_rows (Kd.int .i64) (w0 := w) w.heap.size rfl (.tmp 5) (.tmp 6) 36 3 (.int .i64 0) 8 rfl Tryz.underlying36 info3 rfl (by decide) (by omega) v1 ([] : List Int) l _ _ _ (fun _ => True) (fun _ => False) rfl rfl ?aO ?aR (fun _ _ h => h) (fun _ h => h.elim) ?aF ?aB ?aS ?aL ?_; (case aR => exact Kd.C_below HR.out HB.out); (case aB => exact HB.out); (case aF => exact (fun _ _ => trivial)); (case aO => exact HO.out); (case aS => exact below_size HB.out); (case aL => have := HL.out; simp only [List.length_nil]; omega); intro v2 w2 ho hb hg hat; have n0_ := Aside0.mk (hb); have n1_ := Aside0.mk (ho); clear HB; clear HO; have HB := n0_; have HO := n1_; clear n0_ n1_; clear ho hb hg hat))
 go_ret
 exact ⟨_, rfl, HO.out, HB.out⟩
theorem cloneN_calls (A : Option Addr) (c : Nat) (l : List Int) (w : World) (h : Kd.C (Kd.int .i64) w A l.length l) (hl : l.length ≤ 1000000) :
  Calls Tryz.prog 75 #[.slice A l.length c] w fun e w' => ∃ v, e = .returned v ∧ RowN w' w.heap.size v l ∧ Below w.heap.size w w' := by
 cases A with
 | none =>
  obtain rfl := C_none h
  exact (cloneN_nil _ _ w).mono fun _ _ ⟨he, hw⟩ => ⟨_, he, Kd.R_nil _ _ _ _ _, by rw [hw]; exact Below.refl _ _⟩
 | some ad => exact cloneN_some ad c l w h (by omega)
variable {w w' : World} {g : Gb} {s : GridS} {m : Mb} {x : MeshS}
set_option maxHeartbeats 4000000 in
theorem mNodes_calls (h : Net w g m s x) {i : Nat} (hi : i < x.ps.length) : Calls Tryz.prog 26 #[.pointer (some ⟨m.xb, 0, none⟩), .int .i64 i] w fun e w' => ∃ v, e = .returned v ∧ RowN w' w.heap.size v (x.ps.getD i default).nodes ∧ Below w.heap.size w w' := by
 obtain ⟨_, c1, _, _⟩ := h.cells
 obtain ⟨nv, dv, _, p1, _, hp⟩ := h.part hi
 have hn := cnt_le h.grid.ok.dim
 have hl := h.len
 have d1 : (i : Int) < (x.ps.length : Int) := by omega
 have e1 : (0 : Int) ≤ (i : Int) := by omega
 obtain ⟨An, nn, en⟩ := Kd.R_slice hp.nodes
 have en' : nv = .slice An (x.ps.getD i default).nodes.length nn := en
 subst en'
 obtain ⟨N, hN⟩ : ∃ N, N = (x.ps.getD i default).nodes := ⟨_, rfl⟩
 have HC := Aside0.mk (Kd.R_reads' hp.nodes).2.2
 have HL := Aside0.mk hp.len.1
 rw [← hN] at p1 HC HL ⊢
 clear h hp en hN hn
 go_enter Tryz.func26, Tryz.ntmps26
 go_wp2_with (go_at_call 75; refine (cloneN_calls An nn N _ HC.out (by have := HL.out; omega)).mono ?_; rintro e w1 ⟨v1, rfl, ho, hb⟩; have HO := Aside0.mk ho; have HB := Aside0.mk hb; clear ho hb)
 go_ret
 exact ⟨_, rfl, HO.out, HB.out⟩
end Go.Proofs.YthgehdembghdaaaGreat.P
namespace Go.Proofs.YthgehdembghdaaaGreat.P
open Go.RowKit Go.Proofs.YthgehdembghdaaaGreatW.PrintWords Go.Proofs.YthgehdembghdaaaGreatW.PrintLast Go.Proofs.YthgehdembghdaaaGreatW.PrintMore
open Go.Proofs.YthgehdembghdaaaGreat.Geo Go.Proofs.YthgehdembghdaaaGreat.Dist
set_option linter.unusedVariables false
set_option linter.unusedSimpArgs false
variable {w w' : World} {g : Gb} {s : GridS} {m : Mb} {x : MeshS}
theorem drawn_tr {w w1 w2 : World} (h : Drawn0 w w1) (h' : Drawn0 w1 w2) : Drawn0 w w2 := by
 obtain ⟨a, rfl⟩ := h
 obtain ⟨b, rfl⟩ := h'
 exact ⟨a + b, World.drewN_drewN _ _ _⟩
set_option maxHeartbeats 2000000 in
theorem place_calls {pb o : Nat} {An : Option Addr} {nn : Nat} {N : List Int} (c1 : w.cell? ⟨pb, o + 1, none⟩ = some (.slice An N.length nn)) (hN : Kd.C (Kd.int .i64) w An N.length N) (hnn : N.length ≤ nn) (hs : N.Pairwise (· < ·)) (hl : N.length ≤ 256) (c : Int) :
  Calls Tryz.prog 111 #[.pointer (some ⟨pb, o, none⟩), .int .i64 c] w fun e w' => ∃ p : Nat, e = .returned (.tuple #[.int .i64 p, .bool (decide (c ∈ N))]) ∧ (c ∈ N → p = idx N c) ∧ Drawn0 w w' := by
 obtain ⟨p, hp, hq⟩ := search_some hs (by omega) c
 have HS := Aside0.mk hs
 have HQ := Aside0.mk hq
 have HP := Aside0.mk hp
 have HN := Aside0.mk hN
 have HL := Aside0.mk hnn
 clear hs hq hp hN hl hnn
 go_enter Tryz.func111, Tryz.ntmps111
 go_wp2_with (go_at_call 139; refine (slices_BinarySearch_int_int.calls (N.length + 1) An nn N c (p : Int) (decide (c ∈ N)) _ HN.out HL.out HP.out).mono ?_; rintro e w1 ⟨rfl, hd⟩)
 go_ret2
 exact ⟨p, rfl, fun hm => idx_eq HS.out (HQ.out hm).1 (HQ.out hm).2, hd⟩
set_option maxHeartbeats 2000000 in
theorem between_calls {pb o : Nat} {An Ad : Option Addr} {nn nd : Nat} {N D : List Int} (c1 : w.cell? ⟨pb, o + 1, none⟩ = some (.slice An N.length nn)) (c2 : w.cell? ⟨pb, o + 2, none⟩ = some (.slice Ad D.length nd)) (hD : Kd.C (Kd.int .i32) w Ad D.length D) (hl : D.length = N.length * N.length) (hn : N.length ≤ 256)
  (hr : ∀ k : Nat, k < D.length → -1 ≤ rd D (k : Int) ∧ rd D (k : Int) ≤ 65024) {i j : Nat} (hi : i < N.length) (hj : j < N.length) :
  Calls Tryz.prog 79 #[.pointer (some ⟨pb, o, none⟩), .int .i64 i, .int .i64 j] w fun e w' => e = .returned (.int .i64 (d64 (rd D ((i * N.length + j : Nat) : Int)))) ∧ Drawn0 w w' := by
 have hij := idx_lt hi hj
 rw [← hl] at hij
 have hk := hr _ hij
 obtain ⟨k, hkk⟩ : ∃ k, k = i * N.length + j := ⟨_, rfl⟩
 have hw := idx_wrap (n := N.length) hn hi hj
 rw [← hkk] at hij hk hw ⊢
 have d0 : (0 : Int) ≤ (k : Int) := by omega
 have d1 : (k : Int) < (D.length : Int) := by omega
 obtain ⟨ad, hAd, hx⟩ := Kd.at_int hD (k : Int) d0 d1
 subst hAd
 rw [Int.toNat_natCast] at hx
 obtain ⟨v, hv⟩ : ∃ v, v = rd D (k : Int) := ⟨_, rfl⟩
 rw [← hv] at hx hk ⊢
 have HK := Aside0.mk hk
 clear hD hl hn hr hi hj hv hij hk hkk
 go_enter Tryz.func79, Tryz.ntmps79
 go_wp2_with fail
 go_quiet (fail)
 by_cases q : v = -1
 ·subst q
  go_wp2_with fail
  go_ret
  exact ⟨rfl, ⟨_, rfl⟩⟩
 ·have dd : (v != -1) = true := by simp [q]
  have wv : IntKind.i64.wrap v = v := by rw [IntKind.wrap_i64]; have := HK.out; omega
  have HQ := Aside0.mk q
  clear q
  go_wp2_with fail
  go_ret
  exact ⟨by unfold d64; rw [if_neg HQ.out]; rfl, ⟨_, rfl⟩⟩
set_option maxRecDepth 100000 in
set_option maxHeartbeats 4000000 in
theorem mFind_calls (h : Net w g m s x) (hg : Good x) (c : Int) : Calls Tryz.prog 78 #[.pointer (some ⟨m.xb, 0, none⟩), .int .i64 c] w fun e w' => ∃ p : Nat, e = .returned (.tuple #[.pointer (ptrC s m c), .int .i64 p, .bool (decide (isNode s x c))]) ∧ (isNode s x c → p = idx (partC s x c).nodes c) ∧ Drawn0 w w' := by
 obtain ⟨c0, c1, _, _⟩ := h.cells
 have HM := Aside0.mk h
 have hsc := wSector h.grid.ok.dim c
 by_cases hc : inC s c
 ·have r := sec_rng h.grid.ok.dim hc.1 hc.2
  obtain ⟨i, hi⟩ : ∃ i : Nat, sec s.W c = (i : Int) := ⟨(sec s.W c).toNat, by omega⟩
  have hil : i < x.ps.length := by have := h.len; omega
  have ep : partC s x c = x.ps.getD i default := by unfold partC; rw [hi, Int.toNat_natCast]
  have e1 : ptrC s m c = some ⟨m.pb, i * 3, none⟩ := by unfold ptrC; rw [if_pos hc, hi, Int.toNat_natCast]
  have e2 : isNode s x c ↔ c ∈ (x.ps.getD i default).nodes := by unfold isNode; rw [ep]; exact ⟨fun q => q.2, fun q => ⟨hc, q⟩⟩
  rw [if_pos (show 0 ≤ c ∧ c < s.W * s.H from hc), hi] at hsc
  have hde : decide (isNode s x c) = decide (c ∈ (x.ps.getD i default).nodes) := decide_eq_decide.2 e2
  rw [e1, ep, hde]
  have HSC := Aside0.mk hsc
  have HE := Aside0.mk e2
  have HG := Aside0.mk (hg i).rise
  have HIL := Aside0.mk hil
  have d1 : (i : Int) < (x.ps.length : Int) := by omega
  have d2 : (0 : Int) ≤ (i : Int) := by omega
  have d3 : decide ((i : Int) < 0) = false := by simp
  clear h hg hsc hc r hi hil ep e1 e2 hde
  go_enter Tryz.func78, Tryz.ntmps78
  go_wp2_with (first
   | (go_at_call 87; refine (gSize_calls HM.out.grid).mono ?_; rintro e w1 ⟨rfl, hd⟩; have HD1 := Aside0.mk hd; have c1 := pw_cell_below hd.below c1; have c0 := pw_cell_below hd.below c0; clear hd)
   | (go_at_call 21; refine (where_Sector.calls _ _ _ _ _ HSC.out).mono ?_; rintro e w2 ⟨rfl, hd⟩; have HD2 := Aside0.mk (drawn_tr HD1.out hd); have c1 := pw_cell_below hd.below c1; have c0 := pw_cell_below hd.below c0; clear hd)
   | (go_at_call 111; (have hm2 := HM.out.below HD2.out.below); (obtain ⟨nv, dv, p0, p1, p2, hp⟩ := hm2.part HIL.out); (obtain ⟨An, nn, en⟩ := Kd.R_slice hp.nodes); (have en' : nv = .slice An (x.ps.getD i default).nodes.length nn := en); subst en'; refine (place_calls p1 (Kd.R_reads' hp.nodes).2.2 (Kd.R_reads' hp.nodes).2.1 HG.out hp.len.1 c).mono ?_; rintro e w3 ⟨p, rfl, hpp, hd⟩; have HD3 := Aside0.mk (drawn_tr HD2.out hd); have HPP := Aside0.mk hpp; clear hm2 hp p0 p1 p2 hd hpp en))
  go_ret3
  exact ⟨p, rfl, fun q => HPP.out (HE.out.1 q), HD3.out⟩
 ·have e1 : ptrC s m c = none := by unfold ptrC; rw [if_neg hc]
  have e2 : ¬ isNode s x c := fun q => hc q.1
  rw [if_neg (show ¬ (0 ≤ c ∧ c < s.W * s.H) from hc)] at hsc
  rw [e1, decide_eq_false e2]
  have HSC := Aside0.mk hsc
  have HE := Aside0.mk e2
  clear h hg hsc hc e1 e2
  go_enter Tryz.func78, Tryz.ntmps78
  go_wp2_with (first
   | (go_at_call 87; refine (gSize_calls HM.out.grid).mono ?_; rintro e w1 ⟨rfl, hd⟩; have HD1 := Aside0.mk hd; clear hd)
   | (go_at_call 21; refine (where_Sector.calls _ _ _ _ _ HSC.out).mono ?_; rintro e w2 ⟨rfl, hd⟩; have HD2 := Aside0.mk (drawn_tr HD1.out hd); clear hd))
  go_ret3
  exact ⟨0, rfl, fun q => absurd q HE.out, HD2.out⟩
theorem Net.partAt (h : Net w g m s x) {c : Int} (hc : inC s c) : ∃ (An Ad : Option Addr) (nn nd : Nat), w.cell? ⟨m.pb, (sec s.W c).toNat * 3 + 1, none⟩ = some (.slice An (partC s x c).nodes.length nn) ∧ w.cell? ⟨m.pb, (sec s.W c).toNat * 3 + 2, none⟩ = some (.slice Ad (partC s x c).dist.length nd) ∧ Kd.C (Kd.int .i64) w An (partC s x c).nodes.length (partC s x c).nodes ∧ Kd.C (Kd.int .i32) w Ad (partC s x c).dist.length (partC s x c).dist ∧ (partC s x c).nodes.length ≤ 256 ∧ (partC s x c).dist.length = (partC s x c).nodes.length * (partC s x c).nodes.length := by
 have r := sec_rng h.grid.ok.dim hc.1 hc.2
 have hil : (sec s.W c).toNat < x.ps.length := by have := h.len; omega
 obtain ⟨nv, dv, p0, p1, p2, hp⟩ := h.part hil
 obtain ⟨An, nn, en⟩ := Kd.R_slice hp.nodes
 obtain ⟨Ad, nd, ed⟩ := Kd.R_slice hp.dist
 have en' : nv = .slice An (partC s x c).nodes.length nn := en
 have ed' : dv = .slice Ad (partC s x c).dist.length nd := ed
 subst en' ed'
 exact ⟨An, Ad, nn, nd, p1, p2, (Kd.R_reads' hp.nodes).2.2, (Kd.R_reads' hp.dist).2.2, hp.len.1, hp.len.2⟩
theorem between_at (h : Net w g m s x) (hg : Good x) {c : Int} (hc : inC s c) {i j : Nat} (hi : i < (partC s x c).nodes.length) (hj : j < (partC s x c).nodes.length) :
  Calls Tryz.prog 79 #[.pointer (ptrC s m c), .int .i64 i, .int .i64 j] w fun e w' => e = .returned (.int .i64 (pairD (partC s x c) i j)) ∧ Drawn0 w w' := by
 obtain ⟨An, Ad, nn, nd, p1, p2, hN, hD, hl, hdl⟩ := h.partAt hc
 have e1 : ptrC s m c = some ⟨m.pb, (sec s.W c).toNat * 3, none⟩ := by unfold ptrC; rw [if_pos hc]
 rw [e1]
 exact between_calls p1 p2 hD hdl hl (hg _).dist hi hj
theorem neq_other {P : Program} (w : World) {tp te : TypeId} {j : TypeInfo} {a b : Addr} {ca cb : Array Value} {ta tb : TypeId} (hp : P.underlying tp = some (.pointer te)) (hte : P.info? te = some j) (hsz : j.size ≠ 0)
  (hne : a ≠ b) (ha : w.heap[a.block]? = some (.cells ca ta (0, 0))) (hb : w.heap[b.block]? = some (.cells cb tb (0, 0))) :
  (binOp .neq tp (.pointer (some a)) (.pointer (some b))).run P w = .ok (.bool true) w := by
 have h : ∀ d : Nat, (Op.equalIn (d + 1) tp (.pointer (some a)) (.pointer (some b))).run P w = .ok false w := fun d => by
  simp [Op.equalIn, run_underlying hp, sizeOf, typeInfo, hte, hsz, run_sameAddr_other w hne ha hb]
 simp only [binOp]
 simp [Op.equal, Op.maxDepth, h 9999]
theorem neq_same (h : Net w g m s x) {a b : Int} (ha : inC s a) (hs : sec s.W a = sec s.W b) (hb : inC s b) : Sem.run Tryz.prog (binOp .neq 118 (.pointer (ptrC s m a)) (.pointer (ptrC s m b))) w = .ok (.bool false) w := by
 obtain ⟨i0, hi, hzz⟩ := Option.map_eq_some_iff.1 infoPart
 rw [(ptr_eq h.grid.ok.dim ha hb).2 hs]
 unfold ptrC
 rw [if_pos hb]
 exact Lib.run_neq_ptr_same w _ Tryz.underlying118 hi
theorem neq_diff (h : Net w g m s x) {a b : Int} (ha : inC s a) (hs : sec s.W a ≠ sec s.W b) (hb : inC s b) : Sem.run Tryz.prog (binOp .neq 118 (.pointer (ptrC s m a)) (.pointer (ptrC s m b))) w = .ok (.bool true) w := by
 obtain ⟨i0, hi, hzz⟩ := Option.map_eq_some_iff.1 infoPart
 simp only [Prod.mk.injEq] at hzz
 obtain ⟨pvs, hm⟩ := h.mesh
 obtain ⟨cs, hcs⟩ := hm.typ
 have ra := sec_rng h.grid.ok.dim ha.1 ha.2
 have rb := sec_rng h.grid.ok.dim hb.1 hb.2
 unfold ptrC
 rw [if_pos ha, if_pos hb]
 refine neq_other w Tryz.underlying118 hi (by rw [hzz.2.1]; decide) ?_ hcs hcs
 intro e
 injection e with _ e _
 exact hs (by omega)
end Go.Proofs.YthgehdembghdaaaGreat.P
namespace Go.Proofs.YthgehdembghdaaaGreat.P
open Go.RowKit Go.Proofs.YthgehdembghdaaaGreatW.PrintWords Go.Proofs.YthgehdembghdaaaGreatW.PrintLast Go.Proofs.YthgehdembghdaaaGreatW.PrintMore
open Go.Proofs.YthgehdembghdaaaGreat.Geo Go.Proofs.YthgehdembghdaaaGreat.Dist
set_option linter.unusedVariables false
set_option linter.unusedSimpArgs false
variable {w w' : World} {g : Gb} {s : GridS} {m : Mb} {x : MeshS}
theorem R_room {α : Type} (d : Kd α) (e : Nat) (W : World) (base c : Nat) (z : Array Value) (hb : base ≤ W.heap.size) (hm : c ≤ maxLen) (hs : (madeCells z (c * d.sz)).size = c * d.sz) : d.R e (W.alloc (.cells (madeCells z (c * d.sz)) e)) base (fun _ => True) (.slice (some ⟨W.heap.size, 0, none⟩) 0 c) [] :=
 ⟨fun _ _ => trivial, [], ⟨by simp, .inr ⟨W.heap.size, c, _, rfl, hb, blk_new W _, Nat.zero_le _, hm, hs, by simp⟩⟩, Reps.none _ _⟩
def edgeZ : Array Value := #[.int .i64 0, .int .i64 0]
theorem run_room (n : Nat) (hn : n ≤ 1000000) (W : World) : (Instr.makeSlice 50 (.int .i64 0) (.int .i64 ((n : Int) + 1))).run Tryz.prog W = .ok (.slice (some ⟨W.heap.size, 0, none⟩) 0 (n + 1)) (W.alloc (.cells (madeCells edgeZ ((n + 1) * k53.sz)) 53)) := by
 obtain ⟨i0, hi, hzz⟩ := Option.map_eq_some_iff.1 info53
 simp only [Prod.mk.injEq] at hzz
 obtain ⟨hz0, hz1, hz2⟩ := hzz
 have hr := run_make (P := Tryz.prog) W 50 53 i0 (.agg #[(.int .i64 0), (.int .i64 0)]) Tryz.underlying50 hi hz0 .i64 .i64 0 ((n : Int) + 1) (by omega) (by omega)
  (by rw [hz2]; omega) (by omega)
 rw [hz1, show ((n : Int) + 1).toNat = n + 1 by omega] at hr
 exact hr
theorem edge_len (s : GridS) (x : MeshS) (b : Int) {n d : Nat} (hn : n ≤ 256) (hd : d ≤ 4) : ((inL s x b n ++ sideL s x b d).length + 1) * 16 ≤ 140737488355328 := by
 have h1 := in_len s x b n
 have h2 := side_len s x b d
 rw [List.length_append]
 omega
set_option maxRecDepth 100000 in
set_option maxHeartbeats 8000000 in
theorem mInto_calls (h : Net w g m s x) (hg : Good x) (b : Int) : Calls Tryz.prog 34 #[.pointer (some ⟨m.xb, 0, none⟩), .int .i64 b] w fun e w' => ∃ v, e = .returned v ∧ Kd.R k53 53 w' w.heap.size (fun _ => True) v (intoM s x b) ∧ Below w.heap.size w w' := by
 have HM := Aside0.mk h
 have HG := Aside0.mk hg
 have HF := Aside0.mk (fun (w1 : World) (h1 : Net w1 g m s x) (c : Int) => mFind_calls h1 hg c)
 unfold intoM
 by_cases hb : isNode s x b
 ·rw [if_pos hb]
  have db : decide (isNode s x b) = true := decide_eq_true hb
  obtain ⟨An, Ad, nn, nd, p1, p2, hN, hD, hl, hdl⟩ := h.partAt hb.1
  have e1 : ptrC s m b = some ⟨m.pb, (sec s.W b).toNat * 3, none⟩ := by unfold ptrC; rw [if_pos hb.1]
  obtain ⟨o, ho⟩ : ∃ o, o = (sec s.W b).toNat * 3 := ⟨_, rfl⟩
  rw [← ho] at p1 e1
  obtain ⟨N, hNN⟩ : ∃ N, N = (partC s x b).nodes := ⟨_, rfl⟩
  obtain ⟨j, hj⟩ : ∃ j, j = idx (partC s x b).nodes b := ⟨_, rfl⟩
  have HJ : Aside0 (isNode s x b ∧ N = (partC s x b).nodes ∧ j = idx (partC s x b).nodes b ∧ ptrC s m b = some ⟨m.pb, o, none⟩) := ⟨hb, hNN, hj, e1⟩
  rw [← hNN] at p1 hN hl ⊢
  have HN := Aside0.mk hN
  have HL := Aside0.mk hl
  have hmk := run_room N.length (by omega)
  have hw1 : IntKind.i64.wrap ((N.length : Int) + 1) = (N.length : Int) + 1 := by rw [IntKind.wrap_i64]; omega
  clear h hg hb hN hD hl hdl ho hNN hj p2
  go_enter Tryz.func34, Tryz.ntmps34
  go_upto_region 4 with (go_at_call 78; refine (HF.out _ HM.out b).mono ?_; rw [db, e1]; rintro e w1 ⟨p, rfl, hp, hd⟩; obtain rfl : j = p := ((hp HJ.out.1).trans HJ.out.2.2.1.symm).symm; have HB1 := Aside0.mk hd.below; have p1 := pw_cell_below hd.below p1; clear hp hd)
  clear e1 db
  go_upto_region 5 with fail
  have HO2 := Aside0.mk (R_room k53 53 w1 w.heap.size (N.length + 1) edgeZ HB1.out.size (by have := HL.out; unfold maxLen; omega) (size_madeCells _ _))
  have HB2 := Aside0.mk (below_alloc HB1.out (.cells (madeCells edgeZ ((N.length + 1) * k53.sz)) 53))
  have p1 := pw_cell_below (below_alloc (Below.refl _ _) (.cells (madeCells edgeZ ((N.length + 1) * k53.sz)) 53)) p1
  obtain ⟨rb, hrb⟩ : ∃ rb, rb = w1.heap.size := ⟨_, rfl⟩
  rw [← hrb] at HO2 ⊢
  generalize w1.alloc (.cells (madeCells edgeZ ((N.length + 1) * k53.sz)) 53) = w2 at *
  clear hmk hw1 hrb HB1
  go_wp2_with fail
  go_loopg [8, 40] N.length (fun gg v8 v40 wr => ∃ i : Nat, v40 = .int .i64 i ∧ i ≤ N.length ∧ N.length - i ≤ gg ∧ Aside0 (Kd.R k53 53 wr w.heap.size (fun _ => True) v8 (inL s x b i)) ∧ Aside0 (Below w.heap.size w wr))
  case atStart => exact ⟨0, rfl, Nat.zero_le _, Nat.le_refl _, HO2, HB2⟩
  case round =>
   clear HO2 HB2
   obtain ⟨i, rfl, hi, hgg, HO, HBr⟩ := hrel
   by_cases hlt : i < N.length
   ·have d1 : (i : Int) < (N.length : Int) := by omega
    have d0 : (0 : Int) ≤ (i : Int) := by omega
    obtain ⟨adN, hAN, hx⟩ := Kd.at_int (Kd.C_below HN.out HBr.out) (i : Int) d0 d1
    subst hAN
    rw [Int.toNat_natCast] at hx
    obtain ⟨a, ha⟩ : ∃ a, a = rd N (i : Int) := ⟨_, rfl⟩
    obtain ⟨v, hv⟩ : ∃ v, v = pairD (partC s x b) i j := ⟨_, rfl⟩
    rw [← ha] at hx
    have hbt := between_at (i := i) (j := j) (HM.out.below HBr.out) HG.out HJ.out.1.1 (by rw [← HJ.out.2.1]; exact hlt) (by rw [HJ.out.2.2.1]; exact idx_lt' HJ.out.1.2)
    rw [HJ.out.2.2.2, ← hv] at hbt
    have HBT := Aside0.mk hbt
    have hnx := in_next s x b i
    have hia : inA s x b i = if i ≠ j ∧ v ≠ INF then [⟨a, v⟩] else [] := by unfold inA; rw [← HJ.out.2.2.1, ← hv, ← HJ.out.2.1, ← ha]
    have HI := Aside0.mk (And.intro hi (And.intro hgg hlt))
    obtain ⟨A3, n3, e3⟩ := Kd.R_slice HO.out
    subst e3
    obtain ⟨xs, hxs⟩ : ∃ xs, xs = inL s x b i := ⟨_, rfl⟩
    have HXL : Aside0 ((xs.length + 1) * 16 ≤ 140737488355328) := ⟨by have h1 := in_len s x b i; rw [← hxs] at h1; have := HL.out; omega⟩
    rw [← hxs] at HO hnx ⊢
    clear hbt hi hgg hlt ha hv hxs
    by_cases hij : i = j
    ·have dd : ((i : Int) != (j : Int)) = false := by simp [hij]
     have HNX : Aside0 (inL s x b (i + 1) = xs) := ⟨by rw [hnx, hia, if_neg (fun q => q.1 hij), List.append_nil]⟩
     clear hij hnx hia
     go_wp2_with (go_at_call 79; refine HBT.out.mono ?_; rintro e w3 ⟨rfl, hd⟩; have HO3 := Aside0.mk (Kd.R_below HO.out hd.below); have HB3 := Aside0.mk (below_step HBr.out hd.below); clear hd)
     go_roundg (N.length - (i + 1))
     case measure => have := HI.out; omega
     case rel =>
      have hh := HI.out
      have hl := HL.out
      exact ⟨i + 1, by first | rfl | (rw [w64 (n := (i : Int) + 1) (by omega) (by omega)]; rfl), by omega, Nat.le_refl _, ⟨by rw [HNX.out]; exact HO3.out⟩, HB3⟩
    ·have dd : ((i : Int) != (j : Int)) = true := by simp; omega
     by_cases hv : v = INF
     ·have dv : (v != 1099511627776) = false := by rw [hv]; rfl
      have HNX : Aside0 (inL s x b (i + 1) = xs) := ⟨by rw [hnx, hia, if_neg (fun q => q.2 hv), List.append_nil]⟩
      clear hij hnx hia hv
      go_wp2_with (go_at_call 79; refine HBT.out.mono ?_; rintro e w3 ⟨rfl, hd⟩; have HO3 := Aside0.mk (Kd.R_below HO.out hd.below); have HB3 := Aside0.mk (below_step HBr.out hd.below); clear hd)
      go_roundg (N.length - (i + 1))
      case measure => have := HI.out; omega
      case rel =>
       have hh := HI.out
       have hl := HL.out
       exact ⟨i + 1, by first | rfl | (rw [w64 (n := (i : Int) + 1) (by omega) (by omega)]; rfl), by omega, Nat.le_refl _, ⟨by rw [HNX.out]; exact HO3.out⟩, HB3⟩
     ·have dv : (v != 1099511627776) = true := by rw [bne_iff_ne]; exact hv
      have HNX : Aside0 (inL s x b (i + 1) = xs ++ [(⟨a, v⟩ : EdgeS)]) := ⟨by rw [hnx, hia, if_pos ⟨hij, hv⟩]⟩
      clear hij hnx hia hv
      go_wp2_with (first
       | (go_at_call 79; refine HBT.out.mono ?_; rintro e w3 ⟨rfl, hd⟩; have HO3 := Aside0.mk (Kd.R_below HO.out hd.below); have HB3 := Aside0.mk (below_step HBr.out hd.below); clear hd)
       | ((with_reducible refine gate_builtin (b := .append) (xs := #[.tmp 56, .tmp 60]) rfl ?_); at_builtin; refine Kd.R_append k53 (w0 := w) w.heap.size rfl (.tmp 56) (.tmp 60) 50 53 (.agg #[(.int .i64 0), (.int .i64 0)]) 16 rfl Tryz.underlying50 info53 rfl (by decide) (by omega) (.slice A3 xs.length n3) xs (⟨a, v⟩ : EdgeS) [.int .i64 a, .int .i64 v] (fun _ => True) (fun _ => False) rfl (by first | (go_simp; done) | (go_simp; rfl)) ?aP (fun _ hk => hk.elim) ?aF ?aO ?aB ?aS ?aL ?_; (case aP => exact k53_mkM _ _ _ (⟨a, v⟩ : EdgeS)); (case aB => exact HB3.out); (case aF => exact (fun _ _ => trivial)); (case aO => exact HO3.out); (case aS => exact HB3.out.size); (case aL => exact HXL.out); intro v7 w7 ho7 hb7 hg7 hat7; have HO7 := Aside0.mk ho7; have HB7 := Aside0.mk hb7; clear ho7 hb7 hg7 hat7))
      go_roundg (N.length - (i + 1))
      case measure => have := HI.out; omega
      case rel =>
       have hh := HI.out
       have hl := HL.out
       exact ⟨i + 1, by first | rfl | (rw [w64 (n := (i : Int) + 1) (by omega) (by omega)]; rfl), by omega, Nat.le_refl _, ⟨by rw [HNX.out]; exact HO7.out⟩, HB7⟩
   ·obtain rfl : i = N.length := by omega
    have d1 : decide (((N.length : Nat) : Int) < (N.length : Int)) = false := by simp
    clear hi hgg hlt p1
    have HMr := Aside0.mk (HM.out.below HBr.out)
    obtain ⟨c0, _, _, _⟩ := HMr.out.cells
    have hst : ∀ d : Nat, d < 4 → where_Step.f s.W s.H b (d : Int) = some (stepA s b (d : Int)) := fun d hd => wStep HM.out.grid.ok.dim HJ.out.1.1.1 HJ.out.1.1.2 (by omega)
    have HST := Aside0.mk hst
    have hcf : costF s.C b = rd s.C b := by unfold costF; rw [if_pos ⟨HJ.out.1.1.1, by have := HM.out.grid.clen; have := HJ.out.1.1.2; omega⟩]
    have HCF := Aside0.mk hcf
    clear hst hcf
    go_upto_region 13 with (go_at_call 87; refine (gSize_calls HMr.out.grid).mono ?_; rintro e w3 ⟨rfl, hd⟩; have HO3 := Aside0.mk (Kd.R_below HO.out hd.below); have HB3 := Aside0.mk (below_step HBr.out hd.below); clear hd)
    clear c0 HMr HO HBr
    go_wp2_with fail
    go_loopg [8, 14] 4 (fun gg v8 v14 wr => ∃ d : Nat, v14 = .int .i64 d ∧ d ≤ 4 ∧ 4 - d ≤ gg ∧ Aside0 (Kd.R k53 53 wr w.heap.size (fun _ => True) v8 (inL s x b N.length ++ sideL s x b d)) ∧ Aside0 (Below w.heap.size w wr))
    case atStart => exact ⟨0, rfl, by omega, by omega, ⟨by rw [show sideL s x b 0 = [] from rfl, List.append_nil]; exact HO3.out⟩, HB3⟩
    case round =>
     clear HO3 HB3
     obtain ⟨d, rfl, hd, hgg, HO, HBr⟩ := hrel
     by_cases hlt : d < 4
     ·have d1 : (d : Int) ≤ 3 := by omega
      have hnx := side_next s x b d
      obtain ⟨a, ha⟩ : ∃ a, a = stepA s b (d : Int) := ⟨_, rfl⟩
      have hs4 := HST.out d hlt
      rw [← ha] at hs4
      have HS4 := Aside0.mk hs4
      have hso : sideA s x b d = if sideOk s x b (d : Int) then [⟨a, rd s.C b⟩] else [] := by unfold sideA; rw [ha]
      have hok : sideOk s x b (d : Int) ↔ isNode s x a ∧ sec s.W a ≠ sec s.W b := by unfold sideOk; rw [ha]
      have HI := Aside0.mk (And.intro hd (And.intro hgg hlt))
      have HMr := Aside0.mk (HM.out.below HBr.out)
      obtain ⟨A3, n3, e3⟩ := Kd.R_slice HO.out
      subst e3
      obtain ⟨xs, hxs⟩ : ∃ xs, xs = inL s x b N.length ++ sideL s x b d := ⟨_, rfl⟩
      have HXL : Aside0 ((xs.length + 1) * 16 ≤ 140737488355328) := ⟨by rw [hxs]; exact edge_len s x b HL.out (by omega)⟩
      have HXS := Aside0.mk hxs
      rw [← hxs] at HO ⊢
      clear hd hgg hlt ha hs4 hxs
      by_cases hn : isNode s x a
      ·have dn : decide (isNode s x a) = true := decide_eq_true hn
       by_cases hs : sec s.W a = sec s.W b
       ·obtain ⟨pa, hpa⟩ : ∃ pa, pa = ptrC s m a := ⟨_, rfl⟩
        have HQN : Aside0 (∀ w1, Net w1 g m s x → Sem.run Tryz.prog (binOp .neq 118 (.pointer pa) (.pointer (some ⟨m.pb, o, none⟩))) w1 = .ok (.bool false) w1) := ⟨fun w1 h1 => by rw [hpa, ← HJ.out.2.2.2]; exact neq_same h1 hn.1 hs HJ.out.1.1⟩
        have HNX : Aside0 (sideL s x b (d + 1) = sideL s x b d) := ⟨by rw [hnx, hso, if_neg (fun q => (hok.1 q).2 hs), List.append_nil]⟩
        have HPA := Aside0.mk hpa
        clear hn hs hok hso hnx hpa
        go_upto_region 17 with (go_at_call 88; refine (where_Step.calls _ _ _ _ _ _ HS4.out).mono ?_; rintro e w4 ⟨rfl, hd⟩; have HD4 := Aside0.mk hd; clear hd)
        go_upto_region 18 with (go_at_call 78; refine (HF.out _ (HMr.out.below HD4.out.below) a).mono ?_; rw [dn, ← HPA.out]; rintro e w5 ⟨p, rfl, _, hd⟩; have HD5 := Aside0.mk (drawn_tr HD4.out hd); clear hd)
        have hne := HQN.out w5 (HMr.out.below HD5.out.below)
        go_wp2_with fail
        go_roundg (4 - (d + 1))
        case measure => have := HI.out; omega
        case rel =>
         have hh := HI.out
         exact ⟨d + 1, by first | rfl | (rw [w64 (n := (d : Int) + 1) (by omega) (by omega)]; rfl), by omega, Nat.le_refl _, ⟨by rw [HNX.out, ← HXS.out]; exact Kd.R_below HO.out HD5.out.below⟩, ⟨below_step HBr.out HD5.out.below⟩⟩
       ·obtain ⟨pa, hpa⟩ : ∃ pa, pa = ptrC s m a := ⟨_, rfl⟩
        have HQN : Aside0 (∀ w1, Net w1 g m s x → Sem.run Tryz.prog (binOp .neq 118 (.pointer pa) (.pointer (some ⟨m.pb, o, none⟩))) w1 = .ok (.bool true) w1) := ⟨fun w1 h1 => by rw [hpa, ← HJ.out.2.2.2]; exact neq_diff h1 hn.1 hs HJ.out.1.1⟩
        have HNX : Aside0 (sideL s x b (d + 1) = sideL s x b d ++ [(⟨a, rd s.C b⟩ : EdgeS)]) := ⟨by rw [hnx, hso, if_pos (hok.2 ⟨hn, hs⟩)]⟩
        have HPA := Aside0.mk hpa
        clear hn hs hok hso hnx hpa
        go_upto_region 17 with (go_at_call 88; refine (where_Step.calls _ _ _ _ _ _ HS4.out).mono ?_; rintro e w4 ⟨rfl, hd⟩; have HD4 := Aside0.mk hd; clear hd)
        go_upto_region 18 with (go_at_call 78; refine (HF.out _ (HMr.out.below HD4.out.below) a).mono ?_; rw [dn, ← HPA.out]; rintro e w5 ⟨p, rfl, _, hd⟩; have HD5 := Aside0.mk (drawn_tr HD4.out hd); clear hd)
        have HM5 := Aside0.mk (HMr.out.below HD5.out.below)
        obtain ⟨c0, _, _, _⟩ := HM5.out.cells
        have hne := HQN.out w5 HM5.out
        go_wp2_with (first
         | (go_at_call 89; refine (gCost_calls HM5.out.grid b).mono ?_; rw [HCF.out]; rintro e w6 ⟨rfl, rfl⟩; have HO3 := Aside0.mk (Kd.R_below HO.out HD5.out.below); have HB3 := Aside0.mk (below_step HBr.out HD5.out.below))
         | ((with_reducible refine gate_builtin (b := .append) (xs := #[.tmp 93, .tmp 102]) rfl ?_); at_builtin; refine Kd.R_append k53 (w0 := w) w.heap.size rfl (.tmp 93) (.tmp 102) 50 53 (.agg #[(.int .i64 0), (.int .i64 0)]) 16 rfl Tryz.underlying50 info53 rfl (by decide) (by omega) (.slice A3 xs.length n3) xs (⟨a, rd s.C b⟩ : EdgeS) [.int .i64 a, .int .i64 (rd s.C b)] (fun _ => True) (fun _ => False) rfl (by first | (go_simp; done) | (go_simp; rfl)) ?aP (fun _ hk => hk.elim) ?aF ?aO ?aB ?aS ?aL ?_; (case aP => exact k53_mkM _ _ _ (⟨a, rd s.C b⟩ : EdgeS)); (case aB => exact HB3.out); (case aF => exact (fun _ _ => trivial)); (case aO => exact HO3.out); (case aS => exact HB3.out.size); (case aL => exact HXL.out); intro v7 w7 ho7 hb7 hg7 hat7; have HO7 := Aside0.mk ho7; have HB7 := Aside0.mk hb7; clear ho7 hb7 hg7 hat7))
        go_roundg (4 - (d + 1))
        case measure => have := HI.out; omega
        case rel =>
         have hh := HI.out
         exact ⟨d + 1, by first | rfl | (rw [w64 (n := (d : Int) + 1) (by omega) (by omega)]; rfl), by omega, Nat.le_refl _, ⟨by rw [HNX.out, ← List.append_assoc, ← HXS.out]; exact HO7.out⟩, HB7⟩
      ·have dn : decide (isNode s x a) = false := decide_eq_false hn
       have HNX : Aside0 (sideL s x b (d + 1) = sideL s x b d) := ⟨by rw [hnx, hso, if_neg (fun q => hn (hok.1 q).1), List.append_nil]⟩
       clear hn hok hso hnx
       go_upto_region 17 with (go_at_call 88; refine (where_Step.calls _ _ _ _ _ _ HS4.out).mono ?_; rintro e w4 ⟨rfl, hd⟩; have HD4 := Aside0.mk hd; clear hd)
       go_upto_region 18 with (go_at_call 78; refine (HF.out _ (HMr.out.below HD4.out.below) a).mono ?_; rw [dn]; rintro e w5 ⟨p, rfl, _, hd⟩; have HD5 := Aside0.mk (drawn_tr HD4.out hd); clear hd)
       go_wp2_with fail
       go_roundg (4 - (d + 1))
       case measure => have := HI.out; omega
       case rel =>
        have hh := HI.out
        exact ⟨d + 1, by first | rfl | (rw [w64 (n := (d : Int) + 1) (by omega) (by omega)]; rfl), by omega, Nat.le_refl _, ⟨by rw [HNX.out, ← HXS.out]; exact Kd.R_below HO.out HD5.out.below⟩, ⟨below_step HBr.out HD5.out.below⟩⟩
     ·obtain rfl : d = 4 := by omega
      clear hd hgg hlt
      go_wp2_with fail
      go_ret
      exact ⟨_, rfl, HO.out, HBr.out⟩
 ·rw [if_neg hb]
  have db : decide (isNode s x b) = false := decide_eq_false hb
  clear h hg hb
  go_enter Tryz.func34, Tryz.ntmps34
  go_wp2_with (go_at_call 78; refine (HF.out _ HM.out b).mono ?_; rw [db]; rintro e w1 ⟨p, rfl, hp, hd⟩; have HB1 := Aside0.mk hd.below; clear hp hd)
  go_ret
  exact ⟨_, rfl, Kd.R_nil _ _ _ _ _, HB1.out⟩
end Go.Proofs.YthgehdembghdaaaGreat.P
namespace Go.Proofs.YthgehdembghdaaaGreat.P
open Go.RowKit Go.Proofs.YthgehdembghdaaaGreatW.PrintWords Go.Proofs.YthgehdembghdaaaGreatW.PrintLast Go.Proofs.YthgehdembghdaaaGreatW.PrintMore
open Go.Proofs.YthgehdembghdaaaGreat.Geo Go.Proofs.YthgehdembghdaaaGreat.Dist
set_option linter.unusedVariables false
set_option linter.unusedSimpArgs false
structure RtS where
 goal : Int
 ep : Int
 dist : List Int
structure RtM (w : World) (rb db : Nat) (r : RtS) : Prop where
 box : w.heap[rb]? = some (.cells #[.int .i64 r.goal, .int .i64 r.ep, .slice (some ⟨db, 0, none⟩) r.dist.length r.dist.length] 131 (0, 0))
 row : RowIn encD 1 21 db r.dist.length r.dist.toArray w
 rng : ∀ c : Nat, c < r.dist.length → 0 ≤ rd r.dist (c : Int) ∧ rd r.dist (c : Int) ≤ farN
variable {w w' : World} {rb db fb : Nat} {r : RtS} {g : Gb} {m : Mb}
theorem RtM.ne (h : RtM w rb db r) : rb ≠ db := by
 obtain ⟨cs, hcs⟩ := h.row.typ
 exact blk_ne h.box hcs (by decide)
theorem RtM.chg {S : Nat → Prop} (h : RtM w rb db r) (hc : Chg S w w') (n1 : ¬ S rb) (n2 : ¬ S db) : RtM w' rb db r := by
 obtain ⟨cs, hcs⟩ := h.row.typ
 exact ⟨hc.blk h.box n1, h.row.heap (hc.block _ (blk_lt hcs) n2), h.rng⟩
theorem RtM.below (h : RtM w rb db r) (hb : Below w.heap.size w w') : RtM w' rb db r := h.chg (Chg.of_below hb (fun _ => False)) (fun q => q) (fun q => q)
theorem RtM.at_ (h : RtM w rb db r) {i : Nat} (hi : i < r.dist.length) : w.cell? ⟨db, i, none⟩ = some (.int .i32 (rd r.dist (i : Int))) ∧ w.frozen? ⟨db, i, none⟩ = false := by
 have hsz : i < r.dist.toArray.size := by simpa using hi
 have := h.row.cell hsz (c := 0) (by omega) (u := .int .i32 (r.dist.getD i default)) (by rw [getD_toArray]; rfl)
 rw [Nat.mul_one, Nat.add_zero] at this
 refine ⟨?_, h.row.free _⟩
 rw [this]
 unfold rd
 rw [Int.toNat_natCast]
 rfl
theorem RtM.put (h : RtM w rb db r) {i : Nat} (hi : i < r.dist.length) {k : Int} (hk : 0 ≤ k ∧ k ≤ farN) : RtM (w.setCell ⟨db, i, none⟩ (.int .i32 k)) rb db { r with dist := r.dist.set i k } := by
 have hsz : i < r.dist.toArray.size := by simpa using hi
 have r1 := RowIn.store1 h.row hsz (c := 0) (by omega) (.int .i32 k) k (by rw [getD_toArray]; rfl) (by rw [getD_toArray]; rfl)
 rw [Nat.mul_one, Nat.add_zero, show r.dist.toArray.setIfInBounds i k = (r.dist.set i k).toArray by simp] at r1
 refine ⟨?_, by rw [List.length_set]; exact r1, fun c hc => ?_⟩
 ·have := blk_far h.box (p := ⟨db, i, none⟩) h.ne (.int .i32 k)
  rw [this]
  show _ = some (Obj.cells #[_, _, .slice (some ⟨db, 0, none⟩) (r.dist.set i k).length (r.dist.set i k).length] _ _)
  rw [List.length_set]
 ·have hc' : c < r.dist.length := by simpa using hc
  show 0 ≤ rd (r.dist.set i k) (c : Int) ∧ rd (r.dist.set i k) (c : Int) ≤ farN
  rw [rd_putL hi]
  split
  ·exact hk
  ·exact h.rng c hc'
set_option maxRecDepth 100000 in
set_option maxHeartbeats 4000000 in
theorem rnear_calls (h : RtM w rb db r) {c : Nat} (hc : c < r.dist.length) {k : Int} (hk : 0 ≤ k ∧ k ≤ 9000000000000) : Calls Tryz.prog 117 #[.pointer (some ⟨rb, 0, none⟩), .int .i64 c, .int .i64 k] w fun e w' => k < rd r.dist (c : Int) ∧ e = .returned (.bool true) ∧ w' = w.setCell ⟨db, c, none⟩ (.int .i32 k) ∨ rd r.dist (c : Int) ≤ k ∧ e = .returned (.bool false) ∧ w' = w := by
 have c2 := cell_blk (j := 2) (u := .slice (some ⟨db, 0, none⟩) r.dist.length r.dist.length) h.box rfl
 obtain ⟨q1, q2⟩ := h.at_ hc
 have hr := h.rng c hc
 obtain ⟨x, hx⟩ : ∃ x, x = rd r.dist (c : Int) := ⟨_, rfl⟩
 rw [← hx] at q1 hr ⊢
 unfold farN at hr
 have iw : IntKind.i64.wrap x = x := by rw [IntKind.wrap_i64]; omega
 have e1 : (0 : Int) ≤ (c : Int) := by omega
 have e2 : (c : Int) < (r.dist.length : Int) := by omega
 by_cases hlt : k < x
 ·have iw2 : IntKind.i32.wrap k = k := by rw [IntKind.wrap_i32]; omega
  have d1 : decide (x ≤ k) = false := decide_eq_false (by omega)
  clear h hx
  go_enter Tryz.func117, Tryz.ntmps117
  go_wp2
  go_ret
  exact .inl ⟨hlt, rfl, rfl⟩
 ·have d1 : x ≤ k := by omega
  clear h hx
  go_enter Tryz.func117, Tryz.ntmps117
  go_wp2
  go_ret
  first | exact .inr ⟨d1, rfl, rfl⟩ | exact .inr ⟨rfl, rfl⟩
def atR (d : List Int) (c : Int) : Int := if 0 ≤ c ∧ c < d.length ∧ rd d c ≠ farN then rd d c else INF
set_option maxRecDepth 100000 in
set_option maxHeartbeats 4000000 in
theorem at_calls (h : RtM w rb db r) (c : Int) : Calls Tryz.prog 42 #[.pointer (some ⟨rb, 0, none⟩), .int .i64 c] w fun e w' => e = .returned (.int .i64 (atR r.dist c)) ∧ w' = w := by
 have c2 := cell_blk (j := 2) (u := .slice (some ⟨db, 0, none⟩) r.dist.length r.dist.length) h.box rfl
 unfold atR
 by_cases h0 : c < 0
 ·have d1 : c < 0 := h0
  rw [if_neg (by omega)]
  clear h
  go_enter Tryz.func42, Tryz.ntmps42
  go_wp2
  go_ret
  exact ⟨rfl, rfl⟩
 ·by_cases h1 : (r.dist.length : Int) ≤ c
  ·have d1 : decide (c < 0) = false := decide_eq_false h0
   have d2 : (r.dist.length : Int) ≤ c := h1
   rw [if_neg (by omega)]
   clear h h0
   go_enter Tryz.func42, Tryz.ntmps42
   go_wp2
   go_ret
   exact ⟨rfl, rfl⟩
  ·obtain ⟨n, rfl⟩ : ∃ n : Nat, c = n := ⟨c.toNat, by omega⟩
   have hn : n < r.dist.length := by omega
   obtain ⟨q1, q2⟩ := h.at_ hn
   have hr := h.rng n hn
   obtain ⟨x, hx⟩ : ∃ x, x = rd r.dist (n : Int) := ⟨_, rfl⟩
   rw [← hx] at q1 hr ⊢
   unfold farN at hr ⊢
   have iw : IntKind.i64.wrap x = x := by rw [IntKind.wrap_i64]; omega
   have e1 : (0 : Int) ≤ (n : Int) := by omega
   have e2 : (n : Int) < (r.dist.length : Int) := by omega
   have d2 : decide (r.dist.length ≤ n) = false := decide_eq_false (by omega)
   have d3 : decide ((r.dist.length : Int) ≤ (n : Int)) = false := decide_eq_false (by omega)
   by_cases hf : x = 2147483647
   ·have d4 : (x == 2147483647) = true := by rw [hf]; rfl
    rw [if_neg (fun q => q.2.2 hf)]
    clear h hx h0 h1
    go_enter Tryz.func42, Tryz.ntmps42
    go_wp2
    go_ret
    exact ⟨rfl, rfl⟩
   ·have d4 : (x == 2147483647) = false := by rw [beq_eq_false_iff_ne]; exact hf
    rw [if_pos ⟨e1, e2, hf⟩]
    clear h hx h0 h1
    go_enter Tryz.func42, Tryz.ntmps42
    go_wp2
    go_ret
    exact ⟨rfl, rfl⟩
theorem goal_calls (h : RtM w rb db r) : Calls Tryz.prog 49 #[.pointer (some ⟨rb, 0, none⟩)] w fun e w' => e = .returned (.int .i64 r.goal) ∧ w' = w := by
 have c0 := cell_blk (j := 0) (u := .int .i64 r.goal) h.box rfl
 clear h
 go_enter Tryz.func49, Tryz.ntmps49
 go_wp2
 go_ret
 exact ⟨rfl, rfl⟩
theorem epoch_calls (h : RtM w rb db r) : Calls Tryz.prog 50 #[.pointer (some ⟨rb, 0, none⟩)] w fun e w' => e = .returned (.int .i64 r.ep) ∧ w' = w := by
 have c0 := cell_blk (j := 1) (u := .int .i64 r.ep) h.box rfl
 clear h
 go_enter Tryz.func50, Tryz.ntmps50
 go_wp2
 go_ret
 exact ⟨rfl, rfl⟩
def finB (m : Mb) (g : Gb) (kp : Option Addr) (n : Int) : Obj := .cells (finC (.pointer (some ⟨m.xb, 0, none⟩)) g (.pointer kp) (.int .u64 n)) 129 (0, 0)
theorem fNew_calls (w : World) : Calls Tryz.prog 40 #[.pointer (some ⟨m.xb, 0, none⟩), .pointer (some ⟨g.gb, 0, none⟩)] w fun e w' => e = .returned (.pointer (some ⟨w.heap.size, 0, none⟩)) ∧ w'.heap[w.heap.size]? = some (finB m g none 0) ∧ Below w.heap.size w w' := by
 go_enter Tryz.func40, Tryz.ntmps40
 go_wp2
 go_ret
 exact ⟨rfl, heap_alloc_new _ _, below_alloc (Below.refl _ _) _⟩
theorem fCount_calls {kp : Option Addr} {n : Int} (h : w.heap[fb]? = some (finB m g kp n)) : Calls Tryz.prog 48 #[.pointer (some ⟨fb, 0, none⟩)] w fun e w' => e = .returned (.int .u64 n) ∧ w' = w := by
 have c0 := cell_blk (j := 3) (u := .int .u64 n) h rfl
 clear h
 go_enter Tryz.func48, Tryz.ntmps48
 go_wp2
 go_ret
 exact ⟨rfl, rfl⟩
end Go.Proofs.YthgehdembghdaaaGreat.P
namespace Go.Proofs.YthgehdembghdaaaGreat.P
open Go.RowKit Go.Proofs.YthgehdembghdaaaGreatW.PrintWords Go.Proofs.YthgehdembghdaaaGreatW.PrintLast Go.Proofs.YthgehdembghdaaaGreatW.PrintMore
open Go.Proofs.YthgehdembghdaaaGreat.Geo Go.Proofs.YthgehdembghdaaaGreat.Dist
set_option linter.unusedVariables false
set_option linter.unusedSimpArgs false
variable {w wr w2 : World} {rb db hb mb k : Nat} {r : RtS} {sv sv2 : Value} {L L2 : List Heap.E} {M : Int → Option Int}
structure SM (w wr : World) (rb db : Nat) (r : RtS) (hb : Nat) (sv : Value) (L : List Heap.E) : Prop where
 below : Below w.heap.size w wr
 rt : RtM wr rb db r
 heap : Hp wr w.heap.size hb sv L
 low : w.heap.size ≤ rb ∧ w.heap.size ≤ db
def SW (db hb : Nat) (sv : Value) (c : Nat) : Prop := c = db ∨ HeapS hb sv c
theorem SM.go (h : SM w wr rb db r hb sv L) (hb2 : Below wr.heap.size wr w2) : SM w w2 rb db r hb sv L := ⟨below_step h.below hb2, h.rt.below hb2, h.heap.below hb2, h.low⟩
theorem SM.drew (h : SM w wr rb db r hb sv L) : SM w wr.drew rb db r hb sv L := h.go (below_drew1 (Below.refl _ _))
theorem SM.rbNot (h : SM w wr rb db r hb sv L) : ¬ HeapS hb sv rb := h.heap.not h.rt.box (fun _ => cells_ne (by decide)) (fun _ => cells_ne (by decide))
theorem SM.dbNot (h : SM w wr rb db r hb sv L) : ¬ HeapS hb sv db := by
 obtain ⟨cs, hcs⟩ := h.rt.row.typ
 exact h.heap.not hcs (fun _ => cells_ne (by decide)) (fun _ => cells_ne (by decide))
theorem SM.near (h : SM w wr rb db r hb sv L) {i : Nat} (hi : i < r.dist.length) {k : Int} (hk : 0 ≤ k ∧ k ≤ farN) : SM w (wr.setCell ⟨db, i, none⟩ (.int .i32 k)) rb db { r with dist := r.dist.set i k } hb sv L ∧ Chg (SW db hb sv) wr (wr.setCell ⟨db, i, none⟩ (.int .i32 k)) := by
 have hc : Chg (fun b => b = db) wr (wr.setCell ⟨db, i, none⟩ (.int .i32 k)) := (Chg.refl (fun b => b = db) wr).set_ (.inl rfl) _
 exact ⟨⟨h.below.trans (hc.below (fun b q => by subst q; exact h.low.2) h.below.size), h.rt.put hi hk, h.heap.chg hc (fun c q e => h.dbNot (e ▸ q)), h.low⟩, hc.mono (fun b q => .inl q)⟩
theorem SM.push (h : SM w wr rb db r hb sv L) (hc : Chg (HeapS hb sv) wr w2) (h2 : Hp w2 w.heap.size hb sv2 L2) : SM w w2 rb db r hb sv2 L2 ∧ Chg (SW db hb sv) wr w2 :=
 ⟨⟨h.below.trans (hc.below (fun b q => h.heap.ge q) h.below.size), h.rt.chg hc h.rbNot h.dbNot, h2, h.low⟩, hc.mono (fun b q => .inr q)⟩
theorem SM.typ (h : SM w wr rb db r hb sv L) {c : Nat} (q : SW db hb sv c) : ∃ cs, wr.heap[c]? = some (.cells cs 21 (0, 0)) ∨ wr.heap[c]? = some (.cells cs 179 (0, 0)) ∨ wr.heap[c]? = some (.cells cs 181 (0, 0)) := by
 rcases q with rfl | q
 ·obtain ⟨cs, hcs⟩ := h.rt.row.typ
  exact ⟨cs, .inl hcs⟩
 ·obtain ⟨cs, e | e⟩ := h.heap.typ q
  ·exact ⟨cs, .inr (.inl e)⟩
  ·exact ⟨cs, .inr (.inr e)⟩
theorem SM.mapK (h : SM w wr rb db r hb sv L) (hc : Chg (SW db hb sv) wr w2) (hm : MapV wr mb k M) : MapV w2 mb k M := by
 obtain ⟨es, clock, h1⟩ := hm.blk
 refine hm.heap (hc.block _ hm.lt (fun q => ?_))
 obtain ⟨cs, e | e | e⟩ := h.typ q <;> (rw [h1] at e; exact absurd (Option.some.inj e) map_ne)
theorem SM.rowK (h : SM w wr rb db r hb sv L) (hc : Chg (SW db hb sv) wr w2) {base : Nat} {v : Value} {N : List Int} (hr : RowN wr base v N) : RowN w2 base v N := by
 refine hc.odd rfl hr (fun k q cs' q2 => ?_)
 obtain ⟨cs, e | e | e⟩ := h.typ q <;> (rw [q2] at e; exact absurd (Option.some.inj e) (cells_ne (by decide)))
theorem SM.edgeK (h : SM w wr rb db r hb sv L) (hc : Chg (SW db hb sv) wr w2) {base : Nat} {v : Value} {N : List EdgeS} (hr : Kd.R k53 53 wr base (fun _ => True) v N) : Kd.R k53 53 w2 base (fun _ => True) v N := by
 refine hc.odd rfl hr (fun k q cs' q2 => ?_)
 obtain ⟨cs, e | e | e⟩ := h.typ q <;> (rw [q2] at e; exact absurd (Option.some.inj e) (cells_ne (by decide)))
theorem near_yes {c : Nat} (h : RtM w rb db r) (hc : c < r.dist.length) {k : Int} (hk : 0 ≤ k ∧ k ≤ 9000000000000) (hl : k < rd r.dist (c : Int)) : Calls Tryz.prog 117 #[.pointer (some ⟨rb, 0, none⟩), .int .i64 c, .int .i64 k] w fun e w' => e = .returned (.bool true) ∧ w' = w.setCell ⟨db, c, none⟩ (.int .i32 k) := by
 refine (rnear_calls h hc hk).mono ?_
 rintro e w' (⟨_, q⟩ | ⟨q, _⟩)
 ·exact q
 ·omega
theorem near_no {c : Nat} (h : RtM w rb db r) (hc : c < r.dist.length) {k : Int} (hk : 0 ≤ k ∧ k ≤ 9000000000000) (hl : ¬ k < rd r.dist (c : Int)) : Calls Tryz.prog 117 #[.pointer (some ⟨rb, 0, none⟩), .int .i64 c, .int .i64 k] w fun e w' => e = .returned (.bool false) ∧ w' = w := by
 refine (rnear_calls h hc hk).mono ?_
 rintro e w' (⟨q, _⟩ | ⟨_, q⟩)
 ·exact absurd q hl
 ·exact q
variable {s : GridS} {x : MeshS} {D d : List Int} {c0 : Int} {j : Nat}
theorem edge_getR (O : List EdgeS) {k : Nat} (h : k < O.length) : rd_T53 O (k : Int) = O[k] := by
 show O.getD (k : Int).toNat _ = _
 rw [Int.toNat_natCast, List.getD_eq_getElem?_getD, List.getElem?_eq_getElem h]
 rfl
theorem SrI.few (h : SrI s x D d L c0 j) (hn : s.C.length ≤ 3600) : L.length + 1 ≤ 8000000000000 := by
 have h1 := h.tot
 have h2 : 0 ≤ sumR d := sumTo_nonneg _ (fun i hi => (h.rng i hi).1)
 unfold farN at h1
 omega
theorem nodes_nat (hF : Fresh s x) {t : Int} (ht : inC s t) {si : Nat} (hsi : sec s.W t = si) {i : Nat} (hi : i < (x.ps.getD si default).nodes.length) : ∃ a : Nat, rd (x.ps.getD si default).nodes (i : Int) = a ∧ a < s.C.length ∧ isNode s x (a : Int) := by
 have hr := sec_rng hF.ok.dim ht.1 ht.2
 have p := hF.part si (by have := hF.len; omega)
 have hm : rd (x.ps.getD si default).nodes (i : Int) ∈ (x.ps.getD si default).nodes := mem_rd.2 ⟨i, hi, rfl⟩
 have hm2 := hm
 rw [p.nodes, mem_nodes hF.ok.dim (by rw [← hsi]; exact hr), ← p.nodes] at hm2
 generalize rd (x.ps.getD si default).nodes (i : Int) = a at *
 obtain ⟨n, rfl⟩ : ∃ n : Nat, a = n := ⟨a.toNat, by omega⟩
 exact ⟨n, rfl, by have := hF.ok.len; omega, (isNode_iff hF _).2 ⟨hm2.1, hm2.2.2⟩⟩
theorem nodes_few (hF : Fresh s x) {t : Int} (ht : inC s t) {si : Nat} (hsi : sec s.W t = si) : (x.ps.getD si default).nodes.length ≤ 256 := by
 have hr := sec_rng hF.ok.dim ht.1 ht.2
 rw [(hF.part si (by have := hF.len; omega)).nodes]
 exact nodes_len hF.ok.dim (by rw [← hsi]; exact hr)
theorem nodes_all (hF : Fresh s x) {t : Int} (ht : inC s t) {si : Nat} (hsi : sec s.W t = si) {a : Int} (ha : isNode s x a) (hs : sec s.W a = sec s.W t) : ∃ i : Nat, i < (x.ps.getD si default).nodes.length ∧ rd (x.ps.getD si default).nodes (i : Int) = a := by
 have e : partC s x a = x.ps.getD si default := by unfold partC; rw [hs, hsi, Int.toNat_natCast]
 have := ha.2
 rw [e] at this
 exact mem_rd.1 this
end Go.Proofs.YthgehdembghdaaaGreat.P
