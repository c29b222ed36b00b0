/-
 WALKED BY HAND: the mesh: place, between, find, Dist.
-/
import Derived.Test.YthgehdembghdaaaGreatXFind1
import Derived.Lib.Builder
namespace Go.Proofs.YthgehdembghdaaaGreat.P
open Go.RowKit Go.Proofs.YthgehdembghdaaaGreatW.PrintWords Go.Proofs.YthgehdembghdaaaGreatW.PrintLast Go.Proofs.YthgehdembghdaaaGreatW.PrintMore
open Go.Proofs.YthgehdembghdaaaGreat.Geo Go.Proofs.YthgehdembghdaaaGreat.Dist
set_option linter.unusedVariables false
set_option linter.unusedSimpArgs false
variable {w w' : World} {g : Gb} {s : GridS} {m : Mb} {x : MeshS}
theorem drawn_tr {w w1 w2 : World} (h : Drawn0 w w1) (h' : Drawn0 w1 w2) : Drawn0 w w2 := by
 obtain ⟨a, rfl⟩ := h
 obtain ⟨b, rfl⟩ := h'
 exact ⟨a + b, World.drewN_drewN _ _ _⟩
set_option maxHeartbeats 2000000 in
theorem place_calls {pb o : Nat} {An : Option Addr} {nn : Nat} {N : List Int} (c1 : w.cell? ⟨pb, o + 1, none⟩ = some (.slice An N.length nn)) (hN : Kd.C (Kd.int .i64) w An N.length N) (hnn : N.length ≤ nn) (hs : N.Pairwise (· < ·)) (hl : N.length ≤ 256) (c : Int) :
  Calls Tryz.prog 111 #[.pointer (some ⟨pb, o, none⟩), .int .i64 c] w fun e w' => ∃ p : Nat, e = .returned (.tuple #[.int .i64 p, .bool (decide (c ∈ N))]) ∧ (c ∈ N → p = idx N c) ∧ Drawn0 w w' := by
 obtain ⟨p, hp, hq⟩ := search_some hs (by omega) c
 have HS := Aside0.mk hs
 have HQ := Aside0.mk hq
 have HP := Aside0.mk hp
 have HN := Aside0.mk hN
 have HL := Aside0.mk hnn
 clear hs hq hp hN hl hnn
 go_enter Tryz.func111, Tryz.ntmps111
 go_wp2_with (go_at_call 139; refine (slices_BinarySearch_int_int.calls (N.length + 1) An nn N c (p : Int) (decide (c ∈ N)) _ HN.out HL.out HP.out).mono ?_; rintro e w1 ⟨rfl, hd⟩)
 go_ret2
 exact ⟨p, rfl, fun hm => idx_eq HS.out (HQ.out hm).1 (HQ.out hm).2, hd⟩
set_option maxHeartbeats 2000000 in
theorem between_calls {pb o : Nat} {An Ad : Option Addr} {nn nd : Nat} {N D : List Int} (c1 : w.cell? ⟨pb, o + 1, none⟩ = some (.slice An N.length nn)) (c2 : w.cell? ⟨pb, o + 2, none⟩ = some (.slice Ad D.length nd)) (hD : Kd.C (Kd.int .i32) w Ad D.length D) (hl : D.length = N.length * N.length) (hn : N.length ≤ 256)
  (hr : ∀ k : Nat, k < D.length → -1 ≤ rd D (k : Int) ∧ rd D (k : Int) ≤ 65024) {i j : Nat} (hi : i < N.length) (hj : j < N.length) :
  Calls Tryz.prog 79 #[.pointer (some ⟨pb, o, none⟩), .int .i64 i, .int .i64 j] w fun e w' => e = .returned (.int .i64 (d64 (rd D ((i * N.length + j : Nat) : Int)))) ∧ Drawn0 w w' := by
 have hij := idx_lt hi hj
 rw [← hl] at hij
 have hk := hr _ hij
 obtain ⟨k, hkk⟩ : ∃ k, k = i * N.length + j := ⟨_, rfl⟩
 have hw := idx_wrap (n := N.length) hn hi hj
 rw [← hkk] at hij hk hw ⊢
 have d0 : (0 : Int) ≤ (k : Int) := by omega
 have d1 : (k : Int) < (D.length : Int) := by omega
 obtain ⟨ad, hAd, hx⟩ := Kd.at_int hD (k : Int) d0 d1
 subst hAd
 rw [Int.toNat_natCast] at hx
 obtain ⟨v, hv⟩ : ∃ v, v = rd D (k : Int) := ⟨_, rfl⟩
 rw [← hv] at hx hk ⊢
 have HK := Aside0.mk hk
 clear hD hl hn hr hi hj hv hij hk hkk
 go_enter Tryz.func79, Tryz.ntmps79
 go_wp2_with fail
 go_quiet (fail)
 by_cases q : v = -1
 ·subst q
  go_wp2_with fail
  go_ret
  exact ⟨rfl, ⟨_, rfl⟩⟩
 ·have dd : (v != -1) = true := by simp [q]
  have wv : IntKind.i64.wrap v = v := by rw [IntKind.wrap_i64]; have := HK.out; omega
  have HQ := Aside0.mk q
  clear q
  go_wp2_with fail
  go_ret
  exact ⟨by unfold d64; rw [if_neg HQ.out]; rfl, ⟨_, rfl⟩⟩
set_option maxRecDepth 100000 in
set_option maxHeartbeats 4000000 in
theorem mFind_calls (h : Net w g m s x) (hg : Good x) (c : Int) : Calls Tryz.prog 78 #[.pointer (some ⟨m.xb, 0, none⟩), .int .i64 c] w fun e w' => ∃ p : Nat, e = .returned (.tuple #[.pointer (ptrC s m c), .int .i64 p, .bool (decide (isNode s x c))]) ∧ (isNode s x c → p = idx (partC s x c).nodes c) ∧ Drawn0 w w' := by
 obtain ⟨c0, c1, _, _⟩ := h.cells
 have HM := Aside0.mk h
 have hsc := wSector h.grid.ok.dim c
 by_cases hc : inC s c
 ·have r := sec_rng h.grid.ok.dim hc.1 hc.2
  obtain ⟨i, hi⟩ : ∃ i : Nat, sec s.W c = (i : Int) := ⟨(sec s.W c).toNat, by omega⟩
  have hil : i < x.ps.length := by have := h.len; omega
  have ep : partC s x c = x.ps.getD i default := by unfold partC; rw [hi, Int.toNat_natCast]
  have e1 : ptrC s m c = some ⟨m.pb, i * 3, none⟩ := by unfold ptrC; rw [if_pos hc, hi, Int.toNat_natCast]
  have e2 : isNode s x c ↔ c ∈ (x.ps.getD i default).nodes := by unfold isNode; rw [ep]; exact ⟨fun q => q.2, fun q => ⟨hc, q⟩⟩
  rw [if_pos (show 0 ≤ c ∧ c < s.W * s.H from hc), hi] at hsc
  have hde : decide (isNode s x c) = decide (c ∈ (x.ps.getD i default).nodes) := decide_eq_decide.2 e2
  rw [e1, ep, hde]
  have HSC := Aside0.mk hsc
  have HE := Aside0.mk e2
  have HG := Aside0.mk (hg i).rise
  have HIL := Aside0.mk hil
  have d1 : (i : Int) < (x.ps.length : Int) := by omega
  have d2 : (0 : Int) ≤ (i : Int) := by omega
  have d3 : decide ((i : Int) < 0) = false := by simp
  clear h hg hsc hc r hi hil ep e1 e2 hde
  go_enter Tryz.func78, Tryz.ntmps78
  go_wp2_with (first
   | (go_at_call 87; refine (gSize_calls HM.out.grid).mono ?_; rintro e w1 ⟨rfl, hd⟩; have HD1 := Aside0.mk hd; have c1 := pw_cell_below hd.below c1; have c0 := pw_cell_below hd.below c0; clear hd)
   | (go_at_call 21; refine (where_Sector.calls _ _ _ _ _ HSC.out).mono ?_; rintro e w2 ⟨rfl, hd⟩; have HD2 := Aside0.mk (drawn_tr HD1.out hd); have c1 := pw_cell_below hd.below c1; have c0 := pw_cell_below hd.below c0; clear hd)
   | (go_at_call 111; (have hm2 := HM.out.below HD2.out.below); (obtain ⟨nv, dv, p0, p1, p2, hp⟩ := hm2.part HIL.out); (obtain ⟨An, nn, en⟩ := Kd.R_slice hp.nodes); (have en' : nv = .slice An (x.ps.getD i default).nodes.length nn := en); subst en'; refine (place_calls p1 (Kd.R_reads' hp.nodes).2.2 (Kd.R_reads' hp.nodes).2.1 HG.out hp.len.1 c).mono ?_; rintro e w3 ⟨p, rfl, hpp, hd⟩; have HD3 := Aside0.mk (drawn_tr HD2.out hd); have HPP := Aside0.mk hpp; clear hm2 hp p0 p1 p2 hd hpp en))
  go_ret3
  exact ⟨p, rfl, fun q => HPP.out (HE.out.1 q), HD3.out⟩
 ·have e1 : ptrC s m c = none := by unfold ptrC; rw [if_neg hc]
  have e2 : ¬ isNode s x c := fun q => hc q.1
  rw [if_neg (show ¬ (0 ≤ c ∧ c < s.W * s.H) from hc)] at hsc
  rw [e1, decide_eq_false e2]
  have HSC := Aside0.mk hsc
  have HE := Aside0.mk e2
  clear h hg hsc hc e1 e2
  go_enter Tryz.func78, Tryz.ntmps78
  go_wp2_with (first
   | (go_at_call 87; refine (gSize_calls HM.out.grid).mono ?_; rintro e w1 ⟨rfl, hd⟩; have HD1 := Aside0.mk hd; clear hd)
   | (go_at_call 21; refine (where_Sector.calls _ _ _ _ _ HSC.out).mono ?_; rintro e w2 ⟨rfl, hd⟩; have HD2 := Aside0.mk (drawn_tr HD1.out hd); clear hd))
  go_ret3
  exact ⟨0, rfl, fun q => absurd q HE.out, HD2.out⟩
theorem Net.partAt (h : Net w g m s x) {c : Int} (hc : inC s c) : ∃ (An Ad : Option Addr) (nn nd : Nat), w.cell? ⟨m.pb, (sec s.W c).toNat * 3 + 1, none⟩ = some (.slice An (partC s x c).nodes.length nn) ∧ w.cell? ⟨m.pb, (sec s.W c).toNat * 3 + 2, none⟩ = some (.slice Ad (partC s x c).dist.length nd) ∧ Kd.C (Kd.int .i64) w An (partC s x c).nodes.length (partC s x c).nodes ∧ Kd.C (Kd.int .i32) w Ad (partC s x c).dist.length (partC s x c).dist ∧ (partC s x c).nodes.length ≤ 256 ∧ (partC s x c).dist.length = (partC s x c).nodes.length * (partC s x c).nodes.length := by
 have r := sec_rng h.grid.ok.dim hc.1 hc.2
 have hil : (sec s.W c).toNat < x.ps.length := by have := h.len; omega
 obtain ⟨nv, dv, p0, p1, p2, hp⟩ := h.part hil
 obtain ⟨An, nn, en⟩ := Kd.R_slice hp.nodes
 obtain ⟨Ad, nd, ed⟩ := Kd.R_slice hp.dist
 have en' : nv = .slice An (partC s x c).nodes.length nn := en
 have ed' : dv = .slice Ad (partC s x c).dist.length nd := ed
 subst en' ed'
 exact ⟨An, Ad, nn, nd, p1, p2, (Kd.R_reads' hp.nodes).2.2, (Kd.R_reads' hp.dist).2.2, hp.len.1, hp.len.2⟩
theorem between_at (h : Net w g m s x) (hg : Good x) {c : Int} (hc : inC s c) {i j : Nat} (hi : i < (partC s x c).nodes.length) (hj : j < (partC s x c).nodes.length) :
  Calls Tryz.prog 79 #[.pointer (ptrC s m c), .int .i64 i, .int .i64 j] w fun e w' => e = .returned (.int .i64 (pairD (partC s x c) i j)) ∧ Drawn0 w w' := by
 obtain ⟨An, Ad, nn, nd, p1, p2, hN, hD, hl, hdl⟩ := h.partAt hc
 have e1 : ptrC s m c = some ⟨m.pb, (sec s.W c).toNat * 3, none⟩ := by unfold ptrC; rw [if_pos hc]
 rw [e1]
 exact between_calls p1 p2 hD hdl hl (hg _).dist hi hj
theorem neq_other {P : Program} (w : World) {tp te : TypeId} {j : TypeInfo} {a b : Addr} {ca cb : Array Value} {ta tb : TypeId} (hp : P.underlying tp = some (.pointer te)) (hte : P.info? te = some j) (hsz : j.size ≠ 0)
  (hne : a ≠ b) (ha : w.heap[a.block]? = some (.cells ca ta (0, 0))) (hb : w.heap[b.block]? = some (.cells cb tb (0, 0))) :
  (binOp .neq tp (.pointer (some a)) (.pointer (some b))).run P w = .ok (.bool true) w := by
 have h : ∀ d : Nat, (Op.equalIn (d + 1) tp (.pointer (some a)) (.pointer (some b))).run P w = .ok false w := fun d => by
  simp [Op.equalIn, run_underlying hp, sizeOf, typeInfo, hte, hsz, run_sameAddr_other w hne ha hb]
 simp only [binOp]
 simp [Op.equal, Op.maxDepth, h 9999]
theorem neq_same (h : Net w g m s x) {a b : Int} (ha : inC s a) (hs : sec s.W a = sec s.W b) (hb : inC s b) : Sem.run Tryz.prog (binOp .neq 118 (.pointer (ptrC s m a)) (.pointer (ptrC s m b))) w = .ok (.bool false) w := by
 obtain ⟨i0, hi, hzz⟩ := Option.map_eq_some_iff.1 infoPart
 rw [(ptr_eq h.grid.ok.dim ha hb).2 hs]
 unfold ptrC
 rw [if_pos hb]
 exact Lib.run_neq_ptr_same w _ Tryz.underlying118 hi
theorem neq_diff (h : Net w g m s x) {a b : Int} (ha : inC s a) (hs : sec s.W a ≠ sec s.W b) (hb : inC s b) : Sem.run Tryz.prog (binOp .neq 118 (.pointer (ptrC s m a)) (.pointer (ptrC s m b))) w = .ok (.bool true) w := by
 obtain ⟨i0, hi, hzz⟩ := Option.map_eq_some_iff.1 infoPart
 simp only [Prod.mk.injEq] at hzz
 obtain ⟨pvs, hm⟩ := h.mesh
 obtain ⟨cs, hcs⟩ := hm.typ
 have ra := sec_rng h.grid.ok.dim ha.1 ha.2
 have rb := sec_rng h.grid.ok.dim hb.1 hb.2
 unfold ptrC
 rw [if_pos ha, if_pos hb]
 refine neq_other w Tryz.underlying118 hi (by rw [hzz.2.1]; decide) ?_ hcs hcs
 intro e
 injection e with _ e _
 exact hs (by omega)
end Go.Proofs.YthgehdembghdaaaGreat.P
