/-
 WALKED BY HAND: the mesh: New, Dirty, Count.
-/
import Derived.Test.YthgehdembghdaaaGreatXGTile
import Derived.Test.YthgehdembghdaaaGreatXGrid2
namespace Go.Proofs.YthgehdembghdaaaGreat.P
open Go.RowKit Go.Proofs.YthgehdembghdaaaGreatW.PrintWords Go.Proofs.YthgehdembghdaaaGreatW.PrintLast Go.Proofs.YthgehdembghdaaaGreatW.PrintMore
open Go.Proofs.YthgehdembghdaaaGreat.Geo
set_option linter.unusedVariables false
set_option linter.unusedSimpArgs false
variable {w w' : World} {g : Gb} {s : GridS} {m : Mb} {x : MeshS}
theorem infoPart : (Tryz.prog.info? 111).map (fun i => (i.zero, i.size, i.bytes)) = some (some (.agg #[.int .i64 0, .slice none 0 0, .slice none 0 0]), 3, 56) := by kernel_rfl
def partZ : Array Value := #[.int .i64 0, .slice none 0 0, .slice none 0 0]
theorem run_parts (n : Nat) (hn : n ≤ 1000000) (W : World) : (Instr.makeSlice 106 (.int .i64 (n : Int)) (.int .i64 (n : Int))).run Tryz.prog W = .ok (.slice (some ⟨W.heap.size, 0, none⟩) n n) (W.alloc (.cells (madeCells partZ (n * 3)) 111)) := by
 obtain ⟨i0, hi, hzz⟩ := Option.map_eq_some_iff.1 infoPart
 simp only [Prod.mk.injEq] at hzz
 obtain ⟨hz0, hz1, hz2⟩ := hzz
 have hr := run_make (P := Tryz.prog) W 106 111 i0 (.agg #[.int .i64 0, .slice none 0 0, .slice none 0 0]) Tryz.underlying106 hi hz0 .i64 .i64 (n : Int) (n : Int) (by omega) (by omega)
  (by rw [hz2]; omega) (by omega)
 simp only [Int.toNat_natCast] at hr
 rw [hz1] at hr
 exact hr
theorem rowIn_made (W : World) (n : Nat) : RowIn encP 3 111 W.heap.size n (List.replicate n (default : Pv)).toArray (W.alloc (.cells (madeCells partZ (n * 3)) 111)) := by
 refine ⟨_, blk_new W _, size_madeCells _ _, by simp, fun j hj c hc => ?_⟩
 have hj' : j < n := by simpa using hj
 have e : (List.replicate n (default : Pv)).toArray[j]! = default := by
  rw [getElem!_pos _ j hj]; simp
 rw [e]
 have hlt : j * 3 + c < n * 3 := by omega
 have hc3 : c = 0 ∨ c = 1 ∨ c = 2 := by omega
 unfold madeCells
 rw [Array.getElem?_map, Array.getElem?_range, if_pos hlt]
 rcases hc3 with rfl | rfl | rfl
 ·simp [partZ, encP]; rfl
 ·simp [partZ, encP, Nat.add_mod]; rfl
 ·simp [partZ, encP, Nat.add_mod]; rfl
theorem getD_toArray {α : Type} [Inhabited α] (l : List α) (i : Nat) : l.toArray[i]! = l.getD i default := by
 rw [List.getD_eq_getElem?_getD]
 by_cases h : i < l.length
 ·rw [getElem!_pos l.toArray i (by simpa using h), List.getElem?_eq_getElem h]; simp
 ·rw [List.getElem?_eq_none (by omega), getElem!_neg l.toArray i (by simpa using h)]; rfl
set_option maxHeartbeats 4000000 in
theorem mNew_calls (h : GridM w g s) : Calls Tryz.prog 37 #[.pointer (some ⟨g.gb, 0, none⟩)] w fun e w' => ∃ m : Mb, e = .returned (.pointer (some ⟨m.xb, 0, none⟩)) ∧ Net w' g m s ⟨List.replicate (cnt s.W s.H).toNat default, 0, 0⟩ ∧ Below w.heap.size w w' ∧ ∀ b, m.own b → w.heap.size ≤ b := by
 have HG := Aside0.mk h
 have hc := cnt_le h.ok.dim
 have HSEC := Aside0.mk (wSectors h.ok.dim)
 obtain ⟨n, hn⟩ : ∃ n : Nat, (n : Int) = cnt s.W s.H := ⟨(cnt s.W s.H).toNat, by omega⟩
 have hpp : IntKind.i64.wrap (acr s.W * acr s.H) = (n : Int) := by rw [IntKind.wrap_i64, ← cnt_eq]; omega
 have hrun := run_parts n (by omega)
 have HN := Aside0.mk (And.intro hn hc)
 rw [show (cnt s.W s.H).toNat = n by omega]
 clear h hc hn
 go_enter Tryz.func37, Tryz.ntmps37
 go_wp2_with (first
  | (go_at_call 87; refine (gSize_calls HG.out).mono ?_; rintro e w1 ⟨rfl, hd⟩; have HB1 := Aside0.mk hd.below; clear hd)
  | (go_at_call 71; refine (where_Sectors.calls _ _ _ _ _ HSEC.out).mono ?_; rintro e w2 ⟨rfl, hd⟩; have HB2 := Aside0.mk (below_step HB1.out hd.below); clear hd))
 go_ret
 have hb := HB2.out
 have hsz := hb.size
 have hrow := rowIn_made w2 n
 refine ⟨⟨w2.heap.size + 1, w2.heap.size, n⟩, rfl, ⟨(HG.out.below hb).below (below_alloc (below_alloc (Below.refl _ _) _) _), ⟨List.replicate n default, ?_⟩, by show ((List.replicate n (default : Part)).length : Int) = _; rw [List.length_replicate]; exact HN.out.1⟩, below_alloc (below_alloc hb _) _, ?_⟩
 ·refine ⟨?_, hrow.heap ?_, ⟨by simp, by show n ≤ maxLen; have := HN.out; unfold maxLen; omega⟩, by simp, fun i hi => ?_, by show (0 : Int) ≤ 0 ∧ (0 : Int) ≤ 1000000000; omega⟩
  ·have := blk_new (w2.alloc (.cells (madeCells partZ (n * 3)) 111)) (.cells #[.pointer (some ⟨g.gb, 0, none⟩), .slice (some ⟨w2.heap.size, 0, none⟩) n n, .int .i64 0, .int .u64 0] 108 (0, 0))
   rw [World.size_alloc] at this
   unfold mCells
   rw [List.length_replicate]
   exact this
  ·exact Below.heap_alloc _ _ _ (by rw [World.size_alloc]; exact Nat.lt_succ_self _)
  ·have hi' : i < n := by simpa using hi
   have e1 : (List.replicate n (default : Pv)).getD i default = default := by simp [List.getD_eq_getElem?_getD, hi']
   have e2 : (List.replicate n (default : Part)).getD i default = default := by simp [List.getD_eq_getElem?_getD, hi']
   show PartM _ ((List.replicate n (default : Pv)).getD i default) ((List.replicate n (default : Part)).getD i default)
   rw [e1, e2]
   exact PartM.zero _
 ·rintro b (rfl | rfl)
  ·show w.heap.size ≤ w2.heap.size + 1; omega
  ·exact hsz
def dirtyI (s : GridS) (x : MeshS) (i : Nat) : Prop := (x.ps.getD i default).ver ≠ rd s.V (i : Int)
instance (s : GridS) (x : MeshS) (i : Nat) : Decidable (dirtyI s x i) := inferInstanceAs (Decidable (_ ≠ _))
def dirtyL (s : GridS) (x : MeshS) (n : Nat) : List Int := ((List.range n).filter fun i => decide (dirtyI s x i)).map fun i : Nat => (i : Int)
theorem dirty_next (s : GridS) (x : MeshS) (n : Nat) : dirtyL s x (n + 1) = dirtyL s x n ++ (if dirtyI s x n then [(n : Int)] else []) := by
 unfold dirtyL
 rw [List.range_succ, List.filter_append, List.map_append]
 congr 1
 by_cases q : dirtyI s x n <;> simp [q]
theorem dirty_len (s : GridS) (x : MeshS) (n : Nat) : (dirtyL s x n).length ≤ n := by
 unfold dirtyL
 have := List.length_filter_le (fun i => decide (dirtyI s x i)) (List.range n)
 simpa using this
theorem mem_dirty {s : GridS} {x : MeshS} {n : Nat} {c : Int} : c ∈ dirtyL s x n ↔ ∃ i : Nat, i < n ∧ dirtyI s x i ∧ c = (i : Int) := by
 unfold dirtyL
 rw [List.mem_map]
 constructor
 ·rintro ⟨i, hi, rfl⟩
  rw [List.mem_filter, List.mem_range, decide_eq_true_eq] at hi
  exact ⟨i, hi.1, hi.2, rfl⟩
 ·rintro ⟨i, h1, h2, rfl⟩
  exact ⟨i, by rw [List.mem_filter, List.mem_range, decide_eq_true_eq]; exact ⟨h1, h2⟩, rfl⟩
theorem Net.cells (h : Net w g m s x) : w.cell? ⟨m.xb, 0, none⟩ = some (.pointer (some ⟨g.gb, 0, none⟩)) ∧ w.cell? ⟨m.xb, 1, none⟩ = some (.slice (some ⟨m.pb, 0, none⟩) x.ps.length m.cp) ∧ w.cell? ⟨m.xb, 2, none⟩ = some (.int .i64 x.clean) ∧ w.cell? ⟨m.xb, 3, none⟩ = some (.int .u64 x.cnt) := by
 obtain ⟨pvs, hm⟩ := h.mesh
 have e := hm.len
 refine ⟨cell_blk hm.blk rfl, ?_, cell_blk hm.blk rfl, cell_blk hm.blk rfl⟩
 rw [e]
 exact cell_blk hm.blk rfl
theorem Net.part (h : Net w g m s x) {i : Nat} (hi : i < x.ps.length) : ∃ nv dv : Value, w.cell? ⟨m.pb, i * 3, none⟩ = some (.int .i64 (x.ps.getD i default).ver) ∧ w.cell? ⟨m.pb, i * 3 + 1, none⟩ = some nv ∧ w.cell? ⟨m.pb, i * 3 + 2, none⟩ = some dv ∧ PartM w ⟨(x.ps.getD i default).ver, nv, dv⟩ (x.ps.getD i default) := by
 obtain ⟨pvs, hm⟩ := h.mesh
 have hi' : i < pvs.length := by rw [← hm.len]; exact hi
 have hp := hm.part i hi'
 have hr := hm.row
 have hsz : i < pvs.toArray.size := by simpa using hi'
 have c0 := hr.cell hsz (c := 0) (by omega) (u := .int .i64 (pvs.getD i default).ver) (by rw [getD_toArray]; rfl)
 have c1 := hr.cell hsz (c := 1) (by omega) (u := (pvs.getD i default).nv) (by rw [getD_toArray]; rfl)
 have c2 := hr.cell hsz (c := 2) (by omega) (u := (pvs.getD i default).dv) (by rw [getD_toArray]; rfl)
 refine ⟨(pvs.getD i default).nv, (pvs.getD i default).dv, by rw [← hp.ver]; exact c0, c1, c2, ⟨rfl, hp.nodes, hp.dist, hp.len⟩⟩
set_option maxRecDepth 100000 in
set_option maxHeartbeats 4000000 in
theorem mDirty_calls (h : Net w g m s x) : Calls Tryz.prog 22 #[.pointer (some ⟨m.xb, 0, none⟩)] w fun e w' => ∃ v, e = .returned v ∧ RowN w' w.heap.size v (if x.clean = s.ep then [] else dirtyL s x x.ps.length) ∧ Below w.heap.size w w' := by
 obtain ⟨c0, c1, c2, c3⟩ := h.cells
 have HM := Aside0.mk h
 have hn := cnt_le h.grid.ok.dim
 have hl := h.len
 have hv := h.grid.vlen
 obtain ⟨n, hnn⟩ : ∃ n, n = x.ps.length := ⟨_, rfl⟩
 rw [← hnn] at c1 hl ⊢
 have HN : Aside0 (n = x.ps.length ∧ n ≤ 4096 ∧ n = s.V.length) := ⟨by omega⟩
 have HEP : Aside0 (∀ q, Calls Tryz.prog 52 #[.pointer (some ⟨g.gb, 0, none⟩)] (w.drewN q) fun e w' => e = .returned (.int .i64 s.ep) ∧ Drawn0 (w.drewN q) w') := ⟨fun q => (gEpoch_calls (h.grid.below (pw_below_drewN (Below.refl _ _) q))).mono fun e w' ⟨h1, h2⟩ => ⟨h1, ⟨0, by rw [h2]; rfl⟩⟩⟩
 clear h hn hl hv hnn
 by_cases he : x.clean = s.ep
 ·have de : (x.clean == s.ep) = true := by simp [he]
  rw [if_pos he]
  clear he
  go_enter Tryz.func22, Tryz.ntmps22
  go_wp2_with fail
  go_quiet ((go_at_call 52; refine (HEP.out _).mono ?_; rintro e w' ⟨rfl, ⟨nd, rfl⟩⟩; exact ⟨rfl, _, World.drewN_drewN _ _ _⟩))
  go_wp2_with fail
  go_ret
  exact ⟨_, rfl, Kd.R_nil _ _ _ _ _, pw_below_drewN (Below.refl _ _) _⟩
 ·have de : (x.clean == s.ep) = false := by simp [he]
  rw [if_neg he]
  clear he
  go_enter Tryz.func22, Tryz.ntmps22
  go_wp2_with fail
  go_quiet ((go_at_call 52; refine (HEP.out _).mono ?_; rintro e w' ⟨rfl, ⟨nd, rfl⟩⟩; exact ⟨rfl, _, World.drewN_drewN _ _ _⟩))
  have HM1 := Aside0.mk (HM.out.below (pw_below_drewN (Below.refl _ _) nq))
  have HB1 := Aside0.mk (pw_below_drewN (Below.refl w.heap.size w) nq)
  generalize w.drewN nq = w1 at *
  clear c0 c1 c2 c3
  obtain ⟨c0, c1, c2, c3⟩ := HM1.out.cells
  rw [← HN.out.1] at c1
  go_wp2_with fail
  (try rw [de])
  clear c0 c1 c2 c3 de
  go_loopg [3, 24] n (fun gg v3 v24 wr => ∃ i : Nat, v24 = .int .i64 i ∧ i ≤ n ∧ n - i ≤ gg ∧ Aside0 (RowN wr w.heap.size v3 (dirtyL s x i)) ∧ Aside0 (Below w.heap.size w wr))
  case atStart => exact ⟨0, rfl, Nat.zero_le _, Nat.le_refl _, ⟨Kd.R_nil _ _ _ _ _⟩, HB1⟩
  case round =>
   clear HM1 HB1
   obtain ⟨i, rfl, hi, hgg, HO, HB⟩ := hrel
   have HMr := Aside0.mk (HM.out.below HB.out)
   obtain ⟨c0, c1, _, _⟩ := HMr.out.cells
   rw [← HN.out.1] at c1
   by_cases hlt : i < n
   ·have d1 : (i : Int) < (n : Int) := by omega
    obtain ⟨nv, dv, p0, _, _, hp⟩ := HMr.out.part (i := i) (by rw [← HN.out.1]; exact hlt)
    obtain ⟨ve, hve⟩ : ∃ ve, ve = (x.ps.getD i default).ver := ⟨_, rfl⟩
    obtain ⟨vg, hvg⟩ : ∃ vg, vg = rd s.V (i : Int) := ⟨_, rfl⟩
    rw [← hve] at p0
    have hdn := dirty_next s x i
    have hdi : dirtyI s x i ↔ ve ≠ vg := by unfold dirtyI; rw [← hve, ← hvg]
    obtain ⟨xs, hxs⟩ : ∃ xs, xs = dirtyL s x i := ⟨_, rfl⟩
    have hxl : xs.length ≤ i := by rw [hxs]; exact dirty_len s x i
    rw [← hxs] at HO hdn
    obtain ⟨A3, n3, e3⟩ := Kd.R_slice HO.out
    subst e3
    have HXL : Aside0 ((xs.length + 1) * 8 ≤ 140737488355328) := ⟨by have := HN.out; omega⟩
    have HVE : Aside0 (∀ q, Calls Tryz.prog 72 #[.pointer (some ⟨g.gb, 0, none⟩), .int .i64 i] (wr.drewN q) fun e w' => e = .returned (.int .i64 vg) ∧ Drawn0 (wr.drewN q) w') := ⟨fun q => (gVersion_calls (HMr.out.grid.below (pw_below_drewN (Below.refl _ _) q)) (by have := HN.out; omega)).mono fun e w' ⟨h1, h2⟩ => ⟨by rw [h1, hvg], ⟨0, by rw [h2]; rfl⟩⟩⟩
    have HI := Aside0.mk (And.intro hi (And.intro hgg hlt))
    have e0 : (0 : Int) ≤ (i : Int) := by omega
    by_cases hd : ve = vg
    ·have dd : (ve != vg) = false := by simp [hd]
     have HDN : Aside0 (dirtyL s x (i + 1) = xs) := ⟨by rw [hdn, if_neg (fun q => (hdi.1 q) hd), List.append_nil]⟩
     clear hi hgg hlt hve hvg hdn hdi hxs hxl hd hp
     go_wp2_with fail
     go_quiet ((go_at_call 72; refine (HVE.out _).mono ?_; rintro e w' ⟨rfl, ⟨nd, rfl⟩⟩; exact ⟨rfl, _, World.drewN_drewN _ _ _⟩))
     have HO2 := Aside0.mk (Kd.R_drewN HO.out nq)
     have HB2 := Aside0.mk (pw_below_drewN HB.out nq)
     go_wp2_with fail
     go_roundg (n - (i + 1))
     case measure => have := HI.out; omega
     case rel =>
      have hh := HI.out
      have hn := HN.out
      exact ⟨i + 1, by first | rfl | (rw [w64 (n := (i : Int) + 1) (by omega) (by omega)]; rfl), by omega, Nat.le_refl _, ⟨by rw [HDN.out]; exact HO2.out⟩, HB2⟩
    ·have dd : (ve != vg) = true := by simp [hd]
     have HDN : Aside0 (dirtyL s x (i + 1) = xs ++ [(i : Int)]) := ⟨by rw [hdn, if_pos (hdi.2 hd)]⟩
     clear hi hgg hlt hve hvg hdn hdi hxs hxl hd hp
     go_wp2_with fail
     go_quiet ((go_at_call 72; refine (HVE.out _).mono ?_; rintro e w' ⟨rfl, ⟨nd, rfl⟩⟩; exact ⟨rfl, _, World.drewN_drewN _ _ _⟩))
     have HO2 := Aside0.mk (Kd.R_drewN HO.out nq)
     have HB2 := Aside0.mk (pw_below_drewN HB.out nq)
     generalize wr.drewN nq = w3 at *
     go_wp2_with ((with_reducible refine gate_builtin (b := .append) (xs := #[.tmp 42, .tmp 44]) rfl ?_); at_builtin; refine Kd.R_append (Kd.int .i64) (w0 := w) w.heap.size rfl (.tmp 42) (.tmp 44) 36 3 (.int .i64 0) 8 rfl Tryz.underlying36 info3 rfl (by decide) (by omega) (.slice A3 xs.length n3) xs (i : Int) [.int .i64 i] (fun _ => True) (fun _ => False) rfl rfl ?aP (fun _ hk => hk.elim) ?aF ?aO ?aB ?aS ?aL ?_; (case aP => exact rfl); (case aB => exact HB2.out); (case aF => exact (fun _ _ => trivial)); (case aO => exact HO2.out); (case aS => exact HB2.out.size); (case aL => exact HXL.out); intro v7 w7 ho7 hb7 hg7 hat7; have HO7 := Aside0.mk ho7; have HB7 := Aside0.mk hb7; clear ho7 hb7 hg7 hat7)
     go_roundg (n - (i + 1))
     case measure => have := HI.out; omega
     case rel =>
      have hh := HI.out
      have hn := HN.out
      exact ⟨i + 1, by first | rfl | (rw [w64 (n := (i : Int) + 1) (by omega) (by omega)]; rfl), by omega, Nat.le_refl _, ⟨by rw [HDN.out]; exact HO7.out⟩, HB7⟩
   ·obtain rfl : i = n := by omega
    have d1 : decide (((i : Nat) : Int) < (i : Int)) = false := by simp
    clear hi hgg hlt
    go_wp2_with fail
    go_ret
    exact ⟨_, rfl, HO.out, HB.out⟩
end Go.Proofs.YthgehdembghdaaaGreat.P
