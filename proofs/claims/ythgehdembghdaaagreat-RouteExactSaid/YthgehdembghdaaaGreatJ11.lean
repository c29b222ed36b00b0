import Derived.Test.YthgehdembghdaaaGreatXGeo
import Derived.Test.YthgehdembghdaaaGreatXSort
import Derived.Test.YthgehdembghdaaaGreatXMay
import Derived.Test.YthgehdembghdaaaGreatPx0
namespace Go.Proofs.YthgehdembghdaaaGreat.P
open Go.RowKit Go.Proofs.YthgehdembghdaaaGreatW.PrintWords Go.Proofs.YthgehdembghdaaaGreatW.PrintLast Go.Proofs.YthgehdembghdaaaGreatW.PrintMore
open Go.Proofs.YthgehdembghdaaaGreat.Geo
set_option linter.unusedVariables false
set_option linter.unusedSimpArgs false
theorem cfarN {w : World} {p a : Addr} (h : a.block ≠ p.block) (v : Value) : (w.setCell p v).cell? a = w.cell? a := World.cell?_setCell_other _ _ _ _ (fun e => h (by rw [e]))
theorem Chg.odd {α : Type} {d : Kd α} {S : Nat → Prop} {w w' : World} {e base : Nat} {ok : Nat → Prop} {v : Value} {xs : List α} (hc : Chg S w w') (hE : d.E = []) (h : d.R e w base ok v xs) (hn : ∀ k, S k → ∀ cs, w.heap[k]? ≠ some (.cells cs e (0, 0))) : d.R e w' base ok v xs := by
 refine Kd.R_mono (hc.R (Kd.R_bound h) (fun k hk hs => ?_)) (fun _ hk => hk.1)
 obtain ⟨_, _, _, q, hq, cs, hcs⟩ := hk
 rw [hE, List.mem_singleton] at hq
 subst hq
 exact hn k hs cs hcs
theorem typ_ne {w : World} {g : Nat} {cs cs' : Array Value} {t e : TypeId} (hb : w.heap[g]? = some (.cells cs t (0, 0))) (ht : t ≠ e) : w.heap[g]? ≠ some (.cells cs' e (0, 0)) := by
 rw [hb]
 intro q
 injection q with q
 injection q with _ q _
 exact ht q
structure GridS where
 W : Int
 H : Int
 C : List Int
 ep : Int
 V : List Int
structure Gb where
 gb : Nat
 mb : Nat
 vb : Nat
 cm : Nat
 cv : Nat
def Gb.own (g : Gb) (b : Nat) : Prop := b = g.gb ∨ b = g.mb ∨ b = g.vb
def gCells (g : Gb) (s : GridS) : Array Value := #[.int .i64 s.W, .int .i64 s.H, .slice (some ⟨g.mb, 0, none⟩) s.C.length g.cm, .int .i64 s.ep, .slice (some ⟨g.vb, 0, none⟩) s.V.length g.cv]
structure GridM (w : World) (g : Gb) (s : GridS) : Prop where
 blk : w.heap[g.gb]? = some (.cells (gCells g s) 104 (0, 0))
 map : Kd.R (Kd.int .u8) 5 w 0 (fun b => b = g.mb) (.slice (some ⟨g.mb, 0, none⟩) s.C.length g.cm) s.C
 vers : Kd.R (Kd.int .i64) 2 w 0 (fun b => b = g.vb) (.slice (some ⟨g.vb, 0, none⟩) s.V.length g.cv) s.V
 ok : MapOk s.W s.H s.C
 vlen : (s.V.length : Int) = cnt s.W s.H
 ep : 0 ≤ s.ep ∧ s.ep ≤ 1000000000
variable {w w' : World} {g : Gb} {s : GridS} {S : Nat → Prop}
theorem GridM.chg (h : GridM w g s) (hc : Chg S w w') (hn : ∀ b, g.own b → ¬ S b) : GridM w' g s where
 blk := hc.blk h.blk (hn _ (.inl rfl))
 map := hc.R h.map (fun k hk => hn k (.inr (.inl hk)))
 vers := hc.R h.vers (fun k hk => hn k (.inr (.inr hk)))
 ok := h.ok
 vlen := h.vlen
 ep := h.ep
theorem GridM.below (h : GridM w g s) (hb : Below w.heap.size w w') : GridM w' g s := h.chg (Chg.of_below hb (fun _ => False)) (fun _ _ q => q)
theorem GridM.typM (h : GridM w g s) : ∃ cs, w.heap[g.mb]? = some (.cells cs 5 (0, 0)) := Kd.R_typed h.map _ rfl
theorem GridM.typV (h : GridM w g s) : ∃ cs, w.heap[g.vb]? = some (.cells cs 2 (0, 0)) := Kd.R_typed h.vers _ rfl
theorem GridM.ne (h : GridM w g s) : g.gb ≠ g.mb ∧ g.gb ≠ g.vb ∧ g.mb ≠ g.vb := by
 obtain ⟨c1, h1⟩ := h.typM
 obtain ⟨c2, h2⟩ := h.typV
 exact ⟨blk_ne h.blk h1 (by decide), blk_ne h.blk h2 (by decide), blk_ne h1 h2 (by decide)⟩
theorem GridM.odd (h : GridM w g s) {e : TypeId} (h1 : 104 ≠ e) (h2 : 5 ≠ e) (h3 : 2 ≠ e) : ∀ k, g.own k → ∀ cs, w.heap[k]? ≠ some (.cells cs e (0, 0)) := by
 obtain ⟨c1, p1⟩ := h.typM
 obtain ⟨c2, p2⟩ := h.typV
 rintro k (rfl | rfl | rfl) cs
 ·exact typ_ne h.blk h1
 ·exact typ_ne p1 h2
 ·exact typ_ne p2 h3
theorem GridM.clen (h : GridM w g s) : s.C.length ≤ 1048576 ∧ (s.C.length : Int) = s.W * s.H := by
 have := wh_le h.ok.dim
 have := h.ok.len
 omega
theorem GridM.cost (h : GridM w g s) {c : Nat} (hc : c < s.C.length) : w.cell? ⟨g.mb, c, none⟩ = some (.int .u8 (rd s.C (c : Int))) ∧ w.frozen? ⟨g.mb, c, none⟩ = false := by
 have := Kd.R_celln 0 h.map (c : Int) (by omega) (by omega)
 rw [Int.toNat_natCast] at this
 exact this
theorem GridM.ver (h : GridM w g s) {i : Nat} (hi : i < s.V.length) : w.cell? ⟨g.vb, i, none⟩ = some (.int .i64 (rd s.V (i : Int))) ∧ w.frozen? ⟨g.vb, i, none⟩ = false := by
 have := Kd.R_celln 0 h.vers (i : Int) (by omega) (by omega)
 rw [Int.toNat_natCast] at this
 exact this
theorem mem_set {l : List Int} {i : Nat} {x y : Int} (h : y ∈ l.set i x) : y ∈ l ∨ y = x := List.mem_or_eq_of_mem_set h
theorem GridM.edit (h : GridM w g s) {c i : Nat} {x : Int} (hx : 1 ≤ x ∧ x ≤ 255) (he : s.ep + 1 ≤ 1000000000) : GridM (((w.setCell ⟨g.mb, c, none⟩ (.int .u8 x)).setCell ⟨g.gb, 3, none⟩ (.int .i64 (s.ep + 1))).setCell ⟨g.vb, i, none⟩ (.int .i64 (s.ep + 1))) g { s with C := s.C.set c x, ep := s.ep + 1, V := s.V.set i (s.ep + 1) } := by
 obtain ⟨n1, n2, n3⟩ := h.ne
 have hm := Kd.R_putn h.map (c : Int) x
 have hv := Kd.R_putn (Kd.R_far (Kd.R_far h.vers (p := ⟨g.mb, c, none⟩) (fun k hk => by subst hk; exact n3.symm) (.int .u8 x)) (p := ⟨g.gb, 3, none⟩) (fun k hk => by subst hk; exact n2.symm) (.int .i64 (s.ep + 1))) (i : Int) (s.ep + 1)
 rw [Int.toNat_natCast] at hm hv
 have hb := set_blk (blk_far h.blk (p := ⟨g.mb, c, none⟩) n1 (.int .u8 x)) 3 (.int .i64 (s.ep + 1))
 refine ⟨?_, ?_, ?_, ⟨h.ok.dim, by rw [List.length_set]; exact h.ok.len, fun y hy => ?_⟩, by rw [List.length_set]; exact h.vlen, ?_⟩
 ·have := blk_far hb (p := ⟨g.vb, i, none⟩) n2 (.int .i64 (s.ep + 1))
  rw [this]
  unfold gCells
  rw [List.length_set, List.length_set]
  rfl
 ·rw [List.length_set]
  exact Kd.R_far (Kd.R_far hm (p := ⟨g.gb, 3, none⟩) (fun k hk => by subst hk; exact n1.symm) _) (p := ⟨g.vb, i, none⟩) (fun k hk => by subst hk; exact n3) _
 ·rw [List.length_set]
  exact hv
 ·rcases mem_set hy with q | rfl
  ·exact h.ok.cost y q
  ·exact hx
 ·have := h.ep
  exact ⟨by show 0 ≤ s.ep + 1; omega, he⟩
theorem edit_chg {g : Gb} (w : World) (a b c : Value) (i j : Nat) : Chg g.own w (((w.setCell ⟨g.mb, i, none⟩ a).setCell ⟨g.gb, 3, none⟩ b).setCell ⟨g.vb, j, none⟩ c) :=
 (((Chg.refl g.own w).set_ (.inl (.inr (.inl rfl))) a).set_ (.inl (.inl rfl)) b).set_ (.inl (.inr (.inr rfl))) c
structure Part where
 ver : Int
 nodes : List Int
 dist : List Int
instance : Inhabited Part := ⟨⟨0, [], []⟩⟩
structure Pv where
 ver : Int
 nv : Value
 dv : Value
instance : Inhabited Pv := ⟨⟨0, .slice none 0 0, .slice none 0 0⟩⟩
def encP (x : Pv) : List Value := [.int .i64 x.ver, x.nv, x.dv]
abbrev RowN (w : World) (base : Nat) (v : Value) (l : List Int) : Prop := Kd.R (Kd.int .i64) 3 w base (fun _ => True) v l
abbrev RowD (w : World) (base : Nat) (v : Value) (l : List Int) : Prop := Kd.R (Kd.int .i32) 21 w base (fun _ => True) v l
structure PartM (w : World) (x : Pv) (y : Part) : Prop where
 ver : x.ver = y.ver
 nodes : RowN w 0 x.nv y.nodes
 dist : RowD w 0 x.dv y.dist
 len : y.nodes.length ≤ 256 ∧ y.dist.length = y.nodes.length * y.nodes.length
theorem PartM.zero (w : World) : PartM w default default := ⟨rfl, Kd.R_nil _ _ _ _ _, Kd.R_nil _ _ _ _ _, by decide⟩
def OddN (w : World) (S : Nat → Prop) : Prop := ∀ k, S k → ∀ cs, w.heap[k]? ≠ some (.cells cs 3 (0, 0)) ∧ w.heap[k]? ≠ some (.cells cs 21 (0, 0))
theorem PartM.chg {x : Pv} {y : Part} (h : PartM w x y) (hc : Chg S w w') (hn : OddN w S) : PartM w' x y :=
 ⟨h.ver, hc.odd rfl h.nodes (fun k hk cs => (hn k hk cs).1), hc.odd rfl h.dist (fun k hk cs => (hn k hk cs).2), h.len⟩
structure Mb where
 xb : Nat
 pb : Nat
 cp : Nat
def Mb.own (m : Mb) (b : Nat) : Prop := b = m.xb ∨ b = m.pb
structure MeshS where
 ps : List Part
 clean : Int
 cnt : Int
def mCells (gb : Nat) (m : Mb) (n : Nat) (s : MeshS) : Array Value := #[.pointer (some ⟨gb, 0, none⟩), .slice (some ⟨m.pb, 0, none⟩) n m.cp, .int .i64 s.clean, .int .u64 s.cnt]
structure MeshM (w : World) (gb : Nat) (m : Mb) (x : MeshS) (pvs : List Pv) : Prop where
 blk : w.heap[m.xb]? = some (.cells (mCells gb m pvs.length x) 108 (0, 0))
 row : RowIn encP 3 111 m.pb m.cp pvs.toArray w
 cap : pvs.length ≤ m.cp ∧ m.cp ≤ maxLen
 len : x.ps.length = pvs.length
 part : ∀ i, i < pvs.length → PartM w (pvs.getD i default) (x.ps.getD i default)
 cnt : 0 ≤ x.cnt ∧ x.cnt ≤ 1000000000
variable {m : Mb} {x : MeshS} {pvs : List Pv} {gb : Nat}
theorem RowIn.typ {α : Type} [Inhabited α] {enc : α → List Value} {k e B cap : Nat} {d : Array α} {w : World} (h : RowIn enc k e B cap d w) : ∃ cs, w.heap[B]? = some (.cells cs e (0, 0)) := by
 obtain ⟨cs, h1, _⟩ := h
 exact ⟨_, h1⟩
theorem MeshM.typ (h : MeshM w gb m x pvs) : ∃ cs, w.heap[m.pb]? = some (.cells cs 111 (0, 0)) := h.row.typ
theorem MeshM.ne (h : MeshM w gb m x pvs) : m.xb ≠ m.pb := by
 obtain ⟨cs, h1⟩ := h.typ
 exact blk_ne h.blk h1 (by decide)
theorem MeshM.lt (h : MeshM w gb m x pvs) {b : Nat} (hb : m.own b) : b < w.heap.size := by
 obtain ⟨cs, h1⟩ := h.typ
 rcases hb with rfl | rfl
 ·exact blk_lt h.blk
 ·exact blk_lt h1
theorem MeshM.odd (h : MeshM w gb m x pvs) : OddN w m.own := by
 obtain ⟨cs1, h1⟩ := h.typ
 rintro k (rfl | rfl) cs
 ·exact ⟨typ_ne h.blk (by decide), typ_ne h.blk (by decide)⟩
 ·exact ⟨typ_ne h1 (by decide), typ_ne h1 (by decide)⟩
theorem GridM.oddN (h : GridM w g s) : OddN w g.own := fun k hk cs => ⟨h.odd (by decide) (by decide) (by decide) k hk cs, h.odd (by decide) (by decide) (by decide) k hk cs⟩
theorem MeshM.chg (h : MeshM w gb m x pvs) (hc : Chg S w w') (hn : ∀ b, m.own b → ¬ S b) (ho : OddN w S) : MeshM w' gb m x pvs where
 blk := hc.blk h.blk (hn _ (.inl rfl))
 row := h.row.heap (hc.block _ (h.lt (.inr rfl)) (hn _ (.inr rfl)))
 cap := h.cap
 len := h.len
 part i hi := (h.part i hi).chg hc ho
 cnt := h.cnt
structure Net (w : World) (g : Gb) (m : Mb) (s : GridS) (x : MeshS) : Prop where
 grid : GridM w g s
 mesh : ∃ pvs, MeshM w g.gb m x pvs
 len : (x.ps.length : Int) = cnt s.W s.H
def own2 (g : Gb) (m : Mb) (b : Nat) : Prop := g.own b ∨ m.own b
theorem Net.apart (h : Net w g m s x) : ∀ b, g.own b → ¬ m.own b := by
 obtain ⟨pvs, hm⟩ := h.mesh
 obtain ⟨c1, h1⟩ := h.grid.typM
 obtain ⟨c2, h2⟩ := h.grid.typV
 obtain ⟨c3, h3⟩ := hm.typ
 rintro b (rfl | rfl | rfl) (e | e)
 ·exact blk_ne h.grid.blk hm.blk (by decide) e
 ·exact blk_ne h.grid.blk h3 (by decide) e
 ·exact blk_ne h1 hm.blk (by decide) e
 ·exact blk_ne h1 h3 (by decide) e
 ·exact blk_ne h2 hm.blk (by decide) e
 ·exact blk_ne h2 h3 (by decide) e
theorem Net.chg (h : Net w g m s x) (hc : Chg S w w') (hn : ∀ b, own2 g m b → ¬ S b) (ho : OddN w S) : Net w' g m s x := by
 obtain ⟨pvs, hm⟩ := h.mesh
 exact ⟨h.grid.chg hc (fun b hb => hn b (.inl hb)), ⟨pvs, hm.chg hc (fun b hb => hn b (.inr hb)) ho⟩, h.len⟩
theorem Net.below (h : Net w g m s x) (hb : Below w.heap.size w w') : Net w' g m s x := h.chg (Chg.of_below hb (fun _ => False)) (fun _ _ q => q) (fun _ q => q.elim)
theorem Net.edit {s' : GridS} (h : Net w g m s x) (hg : GridM w' g s') (hc : Chg g.own w w') (hs : cnt s'.W s'.H = cnt s.W s.H) : Net w' g m s' x := by
 obtain ⟨pvs, hm⟩ := h.mesh
 exact ⟨hg, ⟨pvs, hm.chg hc (fun b hb q => h.apart b q hb) h.grid.oddN⟩, by rw [hs]; exact h.len⟩
end Go.Proofs.YthgehdembghdaaaGreat.P
namespace Go.Proofs.YthgehdembghdaaaGreat.P
open Go.RowKit Go.Proofs.YthgehdembghdaaaGreatW.PrintWords Go.Proofs.YthgehdembghdaaaGreatW.PrintLast Go.Proofs.YthgehdembghdaaaGreatW.PrintMore
attribute [local go_sem] max2_int min2_int max_two min_two max_three min_three max_four min_four   -- for this text's walks alone
set_option linter.unusedVariables false
set_option linter.unusedSimpArgs false
def where_May.f (a0 : Int) (a1 : Int) : Option (Bool) := if a0 ≥ 1 then (if a0 ≤ 1024 then (if a1 ≥ 1 then (some (decide (a1 ≤ 1024))) else (some false)) else (some false)) else (some false)
set_option maxHeartbeats 8000000 in
set_option maxRecDepth 100000 in
theorem where_May.calls (a0 : Int) (a1 : Int) (r : Bool) (w : World) (h : where_May.f a0 a1 = some r) :
  Calls Tryz.prog 109 #[.int .i64 a0, .int .i64 a1] w fun e w' => e = .returned (.bool r) ∧ Drawn0 w w' := by
 have H : (if a0 ≥ 1 then (if a0 ≤ 1024 then (if a1 ≥ 1 then (some (decide (a1 ≤ 1024))) else (some false)) else (some false)) else (some false)) = some r := h
 clear h
 by_cases c3 : a0 ≥ 1
 ·rw [if_pos c3] at H
  have c3b0 : decide (1 ≤ a0) = true := decide_eq_true c3
  clear c3
  by_cases c4 : a0 ≤ 1024
  ·rw [if_pos c4] at H
   have c4b0 : decide (a0 ≤ 1024) = true := decide_eq_true c4
   clear c4
   by_cases c5 : a1 ≥ 1
   ·rw [if_pos c5] at H
    have c5b0 : decide (1 ≤ a1) = true := decide_eq_true c5
    clear c5
    obtain rfl := Option.some.inj H
    go_enter Tryz.func109, Tryz.ntmps109
    go_wp2
    go_ret
    exact ⟨by first | rfl | (simp; done) | (simp [*]; done), by repeat (first | exact Drawn0.refl _ | apply Drawn0.step)⟩
   ·rw [if_neg c5] at H
    have c5b0 : decide (1 ≤ a1) = false := decide_eq_false c5
    clear c5
    obtain rfl := Option.some.inj H
    go_enter Tryz.func109, Tryz.ntmps109
    go_wp2
    go_ret
    exact ⟨by first | rfl | (simp; done) | (simp [*]; done), by repeat (first | exact Drawn0.refl _ | apply Drawn0.step)⟩
  ·rw [if_neg c4] at H
   have c4b0 : decide (a0 ≤ 1024) = false := decide_eq_false c4
   clear c4
   obtain rfl := Option.some.inj H
   go_enter Tryz.func109, Tryz.ntmps109
   go_wp2
   go_ret
   exact ⟨by first | rfl | (simp; done) | (simp [*]; done), by repeat (first | exact Drawn0.refl _ | apply Drawn0.step)⟩
 ·rw [if_neg c3] at H
  have c3b0 : decide (1 ≤ a0) = false := decide_eq_false c3
  clear c3
  obtain rfl := Option.some.inj H
  go_enter Tryz.func109, Tryz.ntmps109
  go_wp2
  go_ret
  exact ⟨by first | rfl | (simp; done) | (simp [*]; done), by repeat (first | exact Drawn0.refl _ | apply Drawn0.step)⟩
end Go.Proofs.YthgehdembghdaaaGreat.P
namespace Go.Proofs.YthgehdembghdaaaGreat.P
open Go.RowKit Go.Proofs.YthgehdembghdaaaGreatW.PrintWords Go.Proofs.YthgehdembghdaaaGreatW.PrintLast Go.Proofs.YthgehdembghdaaaGreatW.PrintMore
attribute [local go_sem] max2_int min2_int max_two min_two max_three min_three max_four min_four   -- for this text's walks alone
set_option linter.unusedVariables false
set_option linter.unusedSimpArgs false
def where_Sectors.f (a0 : Int) (a1 : Int) : Option (Int × Int) := (where_May.f a0 a1).bind fun t101 => (if t101 = true then (some (wrap64 (Int.tdiv (wrap64 ((wrap64 (a0 + 16)) - 1)) 16), wrap64 (Int.tdiv (wrap64 ((wrap64 (a1 + 16)) - 1)) 16))) else (some (0, 0)))
set_option maxHeartbeats 8000000 in
set_option maxRecDepth 100000 in
theorem where_Sectors.calls (a0 : Int) (a1 : Int) (r1 : Int) (r2 : Int) (w : World) (h : where_Sectors.f a0 a1 = some (r1, r2)) :
  Calls Tryz.prog 71 #[.int .i64 a0, .int .i64 a1] w fun e w' => e = .returned (.tuple #[.int .i64 r1, .int .i64 r2]) ∧ Drawn0 w w' := by
 have H : ((where_May.f a0 a1).bind fun t101 => (if t101 = true then (some (wrap64 (Int.tdiv (wrap64 ((wrap64 (a0 + 16)) - 1)) 16), wrap64 (Int.tdiv (wrap64 ((wrap64 (a1 + 16)) - 1)) 16))) else (some (0, 0)))) = some (r1, r2) := h
 clear h
 replace H := Option.bind_eq_some_iff.mp H
 obtain ⟨t101, A30, H⟩ := H
 replace H : (if t101 = true then (some (wrap64 (Int.tdiv (wrap64 ((wrap64 (a0 + 16)) - 1)) 16), wrap64 (Int.tdiv (wrap64 ((wrap64 (a1 + 16)) - 1)) 16))) else (some (0, 0))) = some (r1, r2) := H
 have A3 := Aside0.mk A30
 clear A30
 by_cases c4 : t101 = true
 ·subst c4
  have H1 : (some (wrap64 (Int.tdiv (wrap64 ((wrap64 (a0 + 16)) - 1)) 16), wrap64 (Int.tdiv (wrap64 ((wrap64 (a1 + 16)) - 1)) 16))) = some (r1, r2) := by rw [if_pos rfl] at H; exact H
  clear H
  have H := H1
  clear H1
  simp only [Option.some.injEq, Prod.mk.injEq] at H
  obtain ⟨rfl, rfl⟩ := H
  go_enter Tryz.func71, Tryz.ntmps71
  go_wp2_with (first | ((with_reducible refine gate_callee (f := 109) rfl ?_); refine goesL_ (some 8) rfl rfl Tryz.func109 (by kernel_rfl) rfl #[.int .i64 a0, .int .i64 a1] rfl (by (try simp only [List.map_toArray, List.map_cons, List.map_nil]); first | done | rfl | (simp only [List.length_drop, List.length_take]; rfl)) ?_; (with_reducible refine (where_May.calls a0 a1 true _ A3.out).mono ?_); rintro e w' ⟨rfl, ⟨nd, rfl⟩⟩; refine ⟨_, rfl, ?_⟩))
  go_ret2
  exact ⟨by first | rfl | (simp; done) | (simp [*]; done), by repeat (first | exact Drawn0.refl _ | apply Drawn0.step)⟩
 ·replace c4 := Bool.eq_false_iff.mpr c4
  subst c4
  have H1 : (some (0, 0)) = some (r1, r2) := by rw [if_neg (show ¬ (false = true) by decide)] at H; exact H
  clear H
  have H := H1
  clear H1
  simp only [Option.some.injEq, Prod.mk.injEq] at H
  obtain ⟨rfl, rfl⟩ := H
  go_enter Tryz.func71, Tryz.ntmps71
  go_wp2_with (first | ((with_reducible refine gate_callee (f := 109) rfl ?_); refine goesL_ (some 8) rfl rfl Tryz.func109 (by kernel_rfl) rfl #[.int .i64 a0, .int .i64 a1] rfl (by (try simp only [List.map_toArray, List.map_cons, List.map_nil]); first | done | rfl | (simp only [List.length_drop, List.length_take]; rfl)) ?_; (with_reducible refine (where_May.calls a0 a1 false _ A3.out).mono ?_); rintro e w' ⟨rfl, ⟨nd, rfl⟩⟩; refine ⟨_, rfl, ?_⟩))
  go_ret2
  exact ⟨by first | rfl | (simp; done) | (simp [*]; done), by repeat (first | exact Drawn0.refl _ | apply Drawn0.step)⟩
end Go.Proofs.YthgehdembghdaaaGreat.P
namespace Go.Proofs.YthgehdembghdaaaGreat.P
open Go.RowKit Go.Proofs.YthgehdembghdaaaGreatW.PrintWords Go.Proofs.YthgehdembghdaaaGreatW.PrintLast Go.Proofs.YthgehdembghdaaaGreatW.PrintMore
attribute [local go_sem] max2_int min2_int max_two min_two max_three min_three max_four min_four   -- for this text's walks alone
set_option linter.unusedVariables false
set_option linter.unusedSimpArgs false
def where_is.f (a0 : Int) (a1 : Int) (a2 : Int) : Option (Bool) := (where_May.f a0 a1).bind fun t127 => (if t127 = true then (if a2 ≥ 0 then (some (decide (a2 < (wrap64 (a0 * a1))))) else (some false)) else (some false))
set_option maxHeartbeats 8000000 in
set_option maxRecDepth 100000 in
theorem where_is.calls (a0 : Int) (a1 : Int) (a2 : Int) (r : Bool) (w : World) (h : where_is.f a0 a1 a2 = some r) :
  Calls Tryz.prog 108 #[.int .i64 a0, .int .i64 a1, .int .i64 a2] w fun e w' => e = .returned (.bool r) ∧ Drawn0 w w' := by
 have H : ((where_May.f a0 a1).bind fun t127 => (if t127 = true then (if a2 ≥ 0 then (some (decide (a2 < (wrap64 (a0 * a1))))) else (some false)) else (some false))) = some r := h
 clear h
 replace H := Option.bind_eq_some_iff.mp H
 obtain ⟨t127, A40, H⟩ := H
 replace H : (if t127 = true then (if a2 ≥ 0 then (some (decide (a2 < (wrap64 (a0 * a1))))) else (some false)) else (some false)) = some r := H
 have A4 := Aside0.mk A40
 clear A40
 by_cases c5 : t127 = true
 ·subst c5
  have H1 : (if a2 ≥ 0 then (some (decide (a2 < (wrap64 (a0 * a1))))) else (some false)) = some r := by rw [if_pos rfl] at H; exact H
  clear H
  have H := H1
  clear H1
  by_cases c6 : a2 ≥ 0
  ·rw [if_pos c6] at H
   have c6b0 : decide (0 ≤ a2) = true := decide_eq_true c6
   clear c6
   obtain rfl := Option.some.inj H
   go_enter Tryz.func108, Tryz.ntmps108
   go_wp2_with (first | ((with_reducible refine gate_callee (f := 109) rfl ?_); refine goesL_ (some 9) rfl rfl Tryz.func109 (by kernel_rfl) rfl #[.int .i64 a0, .int .i64 a1] rfl (by (try simp only [List.map_toArray, List.map_cons, List.map_nil]); first | done | rfl | (simp only [List.length_drop, List.length_take]; rfl)) ?_; (with_reducible refine (where_May.calls a0 a1 true _ A4.out).mono ?_); rintro e w' ⟨rfl, ⟨nd, rfl⟩⟩; refine ⟨_, rfl, ?_⟩))
   go_ret
   exact ⟨by first | rfl | (simp; done) | (simp [*]; done), by repeat (first | exact Drawn0.refl _ | apply Drawn0.step)⟩
  ·rw [if_neg c6] at H
   have c6b0 : decide (0 ≤ a2) = false := decide_eq_false c6
   clear c6
   obtain rfl := Option.some.inj H
   go_enter Tryz.func108, Tryz.ntmps108
   go_wp2_with (first | ((with_reducible refine gate_callee (f := 109) rfl ?_); refine goesL_ (some 9) rfl rfl Tryz.func109 (by kernel_rfl) rfl #[.int .i64 a0, .int .i64 a1] rfl (by (try simp only [List.map_toArray, List.map_cons, List.map_nil]); first | done | rfl | (simp only [List.length_drop, List.length_take]; rfl)) ?_; (with_reducible refine (where_May.calls a0 a1 true _ A4.out).mono ?_); rintro e w' ⟨rfl, ⟨nd, rfl⟩⟩; refine ⟨_, rfl, ?_⟩))
   go_ret
   exact ⟨by first | rfl | (simp; done) | (simp [*]; done), by repeat (first | exact Drawn0.refl _ | apply Drawn0.step)⟩
 ·replace c5 := Bool.eq_false_iff.mpr c5
  subst c5
  have H1 : (some false) = some r := by rw [if_neg (show ¬ (false = true) by decide)] at H; exact H
  clear H
  have H := H1
  clear H1
  obtain rfl := Option.some.inj H
  go_enter Tryz.func108, Tryz.ntmps108
  go_wp2_with (first | ((with_reducible refine gate_callee (f := 109) rfl ?_); refine goesL_ (some 9) rfl rfl Tryz.func109 (by kernel_rfl) rfl #[.int .i64 a0, .int .i64 a1] rfl (by (try simp only [List.map_toArray, List.map_cons, List.map_nil]); first | done | rfl | (simp only [List.length_drop, List.length_take]; rfl)) ?_; (with_reducible refine (where_May.calls a0 a1 false _ A4.out).mono ?_); rintro e w' ⟨rfl, ⟨nd, rfl⟩⟩; refine ⟨_, rfl, ?_⟩))
  go_ret
  exact ⟨by first | rfl | (simp; done) | (simp [*]; done), by repeat (first | exact Drawn0.refl _ | apply Drawn0.step)⟩
end Go.Proofs.YthgehdembghdaaaGreat.P
namespace Go.Proofs.YthgehdembghdaaaGreat.P
open Go.RowKit Go.Proofs.YthgehdembghdaaaGreatW.PrintWords Go.Proofs.YthgehdembghdaaaGreatW.PrintLast Go.Proofs.YthgehdembghdaaaGreatW.PrintMore
attribute [local go_sem] max2_int min2_int max_two min_two max_three min_three max_four min_four   -- for this text's walks alone
set_option linter.unusedVariables false
set_option linter.unusedSimpArgs false
def where_Place.f (a0 : Int) (a1 : Int) (a2 : Int) : Option (Int × Int) := (where_is.f a0 a1 a2).bind fun t128 => (if t128 = true then (if a0 = 0 then (none) else (some (Int.tmod a2 a0, wrap64 (Int.tdiv a2 a0)))) else (some ((-1), (-1))))
set_option maxHeartbeats 8000000 in
set_option maxRecDepth 100000 in
theorem where_Place.calls (a0 : Int) (a1 : Int) (a2 : Int) (r1 : Int) (r2 : Int) (w : World) (h : where_Place.f a0 a1 a2 = some (r1, r2)) :
  Calls Tryz.prog 70 #[.int .i64 a0, .int .i64 a1, .int .i64 a2] w fun e w' => e = .returned (.tuple #[.int .i64 r1, .int .i64 r2]) ∧ Drawn0 w w' := by
 have H : ((where_is.f a0 a1 a2).bind fun t128 => (if t128 = true then (if a0 = 0 then (none) else (some (Int.tmod a2 a0, wrap64 (Int.tdiv a2 a0)))) else (some ((-1), (-1))))) = some (r1, r2) := h
 clear h
 replace H := Option.bind_eq_some_iff.mp H
 obtain ⟨t128, A40, H⟩ := H
 replace H : (if t128 = true then (if a0 = 0 then (none) else (some (Int.tmod a2 a0, wrap64 (Int.tdiv a2 a0)))) else (some ((-1), (-1)))) = some (r1, r2) := H
 have A4 := Aside0.mk A40
 clear A40
 by_cases c5 : t128 = true
 ·subst c5
  have H1 : (if a0 = 0 then (none) else (some (Int.tmod a2 a0, wrap64 (Int.tdiv a2 a0)))) = some (r1, r2) := by rw [if_pos rfl] at H; exact H
  clear H
  have H := H1
  clear H1
  by_cases c6 : a0 = 0
  ·rw [if_pos c6] at H
   exact absurd H (by simp)
  ·rw [if_neg c6] at H
   have c6b0 : (a0 == 0) = false := beq_eq_false_iff_ne.mpr c6
   have c6b1 : (a0 != 0) = true := bne_iff_ne.mpr c6
   simp only [Option.some.injEq, Prod.mk.injEq] at H
   obtain ⟨rfl, rfl⟩ := H
   go_enter Tryz.func70, Tryz.ntmps70
   go_wp2_with (first | (go_at_call 108; (try simp only [show ∀ n_ : Int, IntKind.i64.wrap n_ = wrap64 n_ from fun n_ => IntKind.wrap_i64 n_]); (with_reducible refine (where_is.calls a0 a1 a2 true _ A4.out).mono ?_); rintro e w' ⟨rfl, ⟨nd, rfl⟩⟩; (try first | exact ⟨rfl, _, World.drewN_drewN _ _ _⟩ | exact ⟨rfl, _, Eq.trans (World.drewN_drewN _ _ _) (congrArg (World.drewN _) (Nat.add_assoc _ _ _))⟩)))
   repeat (go_quiet (first | (go_at_call 108; (try simp only [show ∀ n_ : Int, IntKind.i64.wrap n_ = wrap64 n_ from fun n_ => IntKind.wrap_i64 n_]); (with_reducible refine (where_is.calls a0 a1 a2 true _ A4.out).mono ?_); rintro e w' ⟨rfl, ⟨nd, rfl⟩⟩; (try first | exact ⟨rfl, _, World.drewN_drewN _ _ _⟩ | exact ⟨rfl, _, Eq.trans (World.drewN_drewN _ _ _) (congrArg (World.drewN _) (Nat.add_assoc _ _ _))⟩))); try go_wp2_with (first | (go_at_call 108; (try simp only [show ∀ n_ : Int, IntKind.i64.wrap n_ = wrap64 n_ from fun n_ => IntKind.wrap_i64 n_]); (with_reducible refine (where_is.calls a0 a1 a2 true _ A4.out).mono ?_); rintro e w' ⟨rfl, ⟨nd, rfl⟩⟩; (try first | exact ⟨rfl, _, World.drewN_drewN _ _ _⟩ | exact ⟨rfl, _, Eq.trans (World.drewN_drewN _ _ _) (congrArg (World.drewN _) (Nat.add_assoc _ _ _))⟩))))
   go_ret2
   exact ⟨by first | rfl | (simp; done) | (simp [*]; done), by repeat (first | exact Drawn0.refl _ | apply Drawn0.step)⟩
 ·replace c5 := Bool.eq_false_iff.mpr c5
  subst c5
  have H1 : (some ((-1), (-1))) = some (r1, r2) := by rw [if_neg (show ¬ (false = true) by decide)] at H; exact H
  clear H
  have H := H1
  clear H1
  simp only [Option.some.injEq, Prod.mk.injEq] at H
  obtain ⟨rfl, rfl⟩ := H
  go_enter Tryz.func70, Tryz.ntmps70
  go_wp2_with (first | (go_at_call 108; (try simp only [show ∀ n_ : Int, IntKind.i64.wrap n_ = wrap64 n_ from fun n_ => IntKind.wrap_i64 n_]); (with_reducible refine (where_is.calls a0 a1 a2 false _ A4.out).mono ?_); rintro e w' ⟨rfl, ⟨nd, rfl⟩⟩; (try first | exact ⟨rfl, _, World.drewN_drewN _ _ _⟩ | exact ⟨rfl, _, Eq.trans (World.drewN_drewN _ _ _) (congrArg (World.drewN _) (Nat.add_assoc _ _ _))⟩)))
  repeat (go_quiet (first | (go_at_call 108; (try simp only [show ∀ n_ : Int, IntKind.i64.wrap n_ = wrap64 n_ from fun n_ => IntKind.wrap_i64 n_]); (with_reducible refine (where_is.calls a0 a1 a2 false _ A4.out).mono ?_); rintro e w' ⟨rfl, ⟨nd, rfl⟩⟩; (try first | exact ⟨rfl, _, World.drewN_drewN _ _ _⟩ | exact ⟨rfl, _, Eq.trans (World.drewN_drewN _ _ _) (congrArg (World.drewN _) (Nat.add_assoc _ _ _))⟩))); try go_wp2_with (first | (go_at_call 108; (try simp only [show ∀ n_ : Int, IntKind.i64.wrap n_ = wrap64 n_ from fun n_ => IntKind.wrap_i64 n_]); (with_reducible refine (where_is.calls a0 a1 a2 false _ A4.out).mono ?_); rintro e w' ⟨rfl, ⟨nd, rfl⟩⟩; (try first | exact ⟨rfl, _, World.drewN_drewN _ _ _⟩ | exact ⟨rfl, _, Eq.trans (World.drewN_drewN _ _ _) (congrArg (World.drewN _) (Nat.add_assoc _ _ _))⟩))))
  go_ret2
  exact ⟨by first | rfl | (simp; done) | (simp [*]; done), by repeat (first | exact Drawn0.refl _ | apply Drawn0.step)⟩
end Go.Proofs.YthgehdembghdaaaGreat.P
namespace Go.Proofs.YthgehdembghdaaaGreat.P
open Go.RowKit Go.Proofs.YthgehdembghdaaaGreatW.PrintWords Go.Proofs.YthgehdembghdaaaGreatW.PrintLast Go.Proofs.YthgehdembghdaaaGreatW.PrintMore
attribute [local go_sem] max2_int min2_int max_two min_two max_three min_three max_four min_four   -- for this text's walks alone
set_option linter.unusedVariables false
set_option linter.unusedSimpArgs false
def where_Sector.f (a0 : Int) (a1 : Int) (a2 : Int) : Option (Int) := (where_Place.f a0 a1 a2).bind fun bt129 => (if bt129.1 < 0 then (some (-1)) else ((where_Sectors.f a0 a1).bind fun bt131 => (some (wrap64 ((wrap64 ((wrap64 (Int.tdiv bt129.2 16)) * bt131.1)) + (wrap64 (Int.tdiv bt129.1 16)))))))
set_option maxHeartbeats 8000000 in
set_option maxRecDepth 100000 in
theorem where_Sector.calls (a0 : Int) (a1 : Int) (a2 : Int) (r : Int) (w : World) (h : where_Sector.f a0 a1 a2 = some r) :
  Calls Tryz.prog 21 #[.int .i64 a0, .int .i64 a1, .int .i64 a2] w fun e w' => e = .returned (.int .i64 r) ∧ Drawn0 w w' := by
 have H : ((where_Place.f a0 a1 a2).bind fun bt129 => (if bt129.1 < 0 then (some (-1)) else ((where_Sectors.f a0 a1).bind fun bt131 => (some (wrap64 ((wrap64 ((wrap64 (Int.tdiv bt129.2 16)) * bt131.1)) + (wrap64 (Int.tdiv bt129.1 16)))))))) = some r := h
 clear h
 replace H := Option.bind_eq_some_iff.mp H
 obtain ⟨⟨t129, t130⟩, A40, H⟩ := H
 replace H : (if t129 < 0 then (some (-1)) else ((where_Sectors.f a0 a1).bind fun bt131 => (some (wrap64 ((wrap64 ((wrap64 (Int.tdiv t130 16)) * bt131.1)) + (wrap64 (Int.tdiv t129 16))))))) = some r := H
 have A4 := Aside0.mk A40
 clear A40
 by_cases c5 : t129 < 0
 ·rw [if_pos c5] at H
  have c5b0 : decide (t129 < 0) = true := decide_eq_true c5
  clear c5
  obtain rfl := Option.some.inj H
  go_enter Tryz.func21, Tryz.ntmps21
  go_wp2_with (first | ((with_reducible refine gate_callee (f := 70) rfl ?_); refine goesL_ (some 15) rfl rfl Tryz.func70 (by kernel_rfl) rfl #[.int .i64 a0, .int .i64 a1, .int .i64 a2] rfl (by (try simp only [List.map_toArray, List.map_cons, List.map_nil]); first | done | rfl | (simp only [List.length_drop, List.length_take]; rfl)) ?_; (with_reducible refine (where_Place.calls a0 a1 a2 t129 t130 _ A4.out).mono ?_); rintro e w' ⟨rfl, ⟨nd, rfl⟩⟩; refine ⟨_, rfl, ?_⟩))
  go_ret
  exact ⟨by first | rfl | (simp; done) | (simp [*]; done), by repeat (first | exact Drawn0.refl _ | apply Drawn0.step)⟩
 ·rw [if_neg c5] at H
  have c5b0 : decide (t129 < 0) = false := decide_eq_false c5
  clear c5
  replace H := Option.bind_eq_some_iff.mp H
  obtain ⟨⟨t131, t132⟩, A60, H⟩ := H
  replace H : (some (wrap64 ((wrap64 ((wrap64 (Int.tdiv t130 16)) * t131)) + (wrap64 (Int.tdiv t129 16))))) = some r := H
  have A6 := Aside0.mk A60
  clear A60
  obtain rfl := Option.some.inj H
  go_enter Tryz.func21, Tryz.ntmps21
  go_wp2_with (first | ((with_reducible refine gate_callee (f := 70) rfl ?_); refine goesL_ (some 15) rfl rfl Tryz.func70 (by kernel_rfl) rfl #[.int .i64 a0, .int .i64 a1, .int .i64 a2] rfl (by (try simp only [List.map_toArray, List.map_cons, List.map_nil]); first | done | rfl | (simp only [List.length_drop, List.length_take]; rfl)) ?_; (with_reducible refine (where_Place.calls a0 a1 a2 t129 t130 _ A4.out).mono ?_); rintro e w' ⟨rfl, ⟨nd, rfl⟩⟩; refine ⟨_, rfl, ?_⟩) | ((with_reducible refine gate_callee (f := 71) rfl ?_); refine goesL_ (some 23) rfl rfl Tryz.func71 (by kernel_rfl) rfl #[.int .i64 a0, .int .i64 a1] rfl (by (try simp only [List.map_toArray, List.map_cons, List.map_nil]); first | done | rfl | (simp only [List.length_drop, List.length_take]; rfl)) ?_; (with_reducible refine (where_Sectors.calls a0 a1 t131 t132 _ A6.out).mono ?_); rintro e w' ⟨rfl, ⟨nd, rfl⟩⟩; refine ⟨_, rfl, ?_⟩))
  go_ret
  exact ⟨by first | rfl | (simp; done) | (simp [*]; done), by repeat (first | exact Drawn0.refl _ | apply Drawn0.step)⟩
end Go.Proofs.YthgehdembghdaaaGreat.P
namespace Go.Proofs.YthgehdembghdaaaGreat.P
open Go.RowKit Go.Proofs.YthgehdembghdaaaGreatW.PrintWords Go.Proofs.YthgehdembghdaaaGreatW.PrintLast Go.Proofs.YthgehdembghdaaaGreatW.PrintMore
attribute [local go_sem] max2_int min2_int max_two min_two max_three min_three max_four min_four   -- for this text's walks alone
set_option linter.unusedVariables false
set_option linter.unusedSimpArgs false
def where_corner.f (a0 : Int) (a1 : Int) (a2 : Int) : Option (Int × Int × Bool) := (where_Sectors.f a0 a1).bind fun bt133 => (if a2 < 0 then (some (0, 0, false)) else (if a2 ≥ (wrap64 (bt133.1 * bt133.2)) then (some (0, 0, false)) else (if bt133.1 = 0 then (none) else (some (wrap64 ((Int.tmod a2 bt133.1) * 16), wrap64 ((wrap64 (Int.tdiv a2 bt133.1)) * 16), true)))))
set_option maxHeartbeats 8000000 in
set_option maxRecDepth 100000 in
theorem where_corner.calls (a0 : Int) (a1 : Int) (a2 : Int) (r1 : Int) (r2 : Int) (r3 : Bool) (w : World) (h : where_corner.f a0 a1 a2 = some (r1, r2, r3)) :
  Calls Tryz.prog 129 #[.int .i64 a0, .int .i64 a1, .int .i64 a2] w fun e w' => e = .returned (.tuple #[.int .i64 r1, .int .i64 r2, .bool r3]) ∧ Drawn0 w w' := by
 have H : ((where_Sectors.f a0 a1).bind fun bt133 => (if a2 < 0 then (some (0, 0, false)) else (if a2 ≥ (wrap64 (bt133.1 * bt133.2)) then (some (0, 0, false)) else (if bt133.1 = 0 then (none) else (some (wrap64 ((Int.tmod a2 bt133.1) * 16), wrap64 ((wrap64 (Int.tdiv a2 bt133.1)) * 16), true)))))) = some (r1, r2, r3) := h
 clear h
 replace H := Option.bind_eq_some_iff.mp H
 obtain ⟨⟨t133, t134⟩, A40, H⟩ := H
 replace H : (if a2 < 0 then (some (0, 0, false)) else (if a2 ≥ (wrap64 (t133 * t134)) then (some (0, 0, false)) else (if t133 = 0 then (none) else (some (wrap64 ((Int.tmod a2 t133) * 16), wrap64 ((wrap64 (Int.tdiv a2 t133)) * 16), true))))) = some (r1, r2, r3) := H
 have A4 := Aside0.mk A40
 clear A40
 by_cases c5 : a2 < 0
 ·rw [if_pos c5] at H
  have c5b0 : decide (a2 < 0) = true := decide_eq_true c5
  clear c5
  simp only [Option.some.injEq, Prod.mk.injEq] at H
  obtain ⟨rfl, rfl, rfl⟩ := H
  go_enter Tryz.func129, Tryz.ntmps129
  go_wp2_with (first | (go_at_call 71; (try simp only [show ∀ n_ : Int, IntKind.i64.wrap n_ = wrap64 n_ from fun n_ => IntKind.wrap_i64 n_]); (with_reducible refine (where_Sectors.calls a0 a1 t133 t134 _ A4.out).mono ?_); rintro e w' ⟨rfl, ⟨nd, rfl⟩⟩; (try first | exact ⟨rfl, _, World.drewN_drewN _ _ _⟩ | exact ⟨rfl, _, Eq.trans (World.drewN_drewN _ _ _) (congrArg (World.drewN _) (Nat.add_assoc _ _ _))⟩)))
  repeat (go_quiet (first | (go_at_call 71; (try simp only [show ∀ n_ : Int, IntKind.i64.wrap n_ = wrap64 n_ from fun n_ => IntKind.wrap_i64 n_]); (with_reducible refine (where_Sectors.calls a0 a1 t133 t134 _ A4.out).mono ?_); rintro e w' ⟨rfl, ⟨nd, rfl⟩⟩; (try first | exact ⟨rfl, _, World.drewN_drewN _ _ _⟩ | exact ⟨rfl, _, Eq.trans (World.drewN_drewN _ _ _) (congrArg (World.drewN _) (Nat.add_assoc _ _ _))⟩))); try go_wp2_with (first | (go_at_call 71; (try simp only [show ∀ n_ : Int, IntKind.i64.wrap n_ = wrap64 n_ from fun n_ => IntKind.wrap_i64 n_]); (with_reducible refine (where_Sectors.calls a0 a1 t133 t134 _ A4.out).mono ?_); rintro e w' ⟨rfl, ⟨nd, rfl⟩⟩; (try first | exact ⟨rfl, _, World.drewN_drewN _ _ _⟩ | exact ⟨rfl, _, Eq.trans (World.drewN_drewN _ _ _) (congrArg (World.drewN _) (Nat.add_assoc _ _ _))⟩))))
  go_ret3
  exact ⟨by first | rfl | (simp; done) | (simp [*]; done), by repeat (first | exact Drawn0.refl _ | apply Drawn0.step)⟩
 ·rw [if_neg c5] at H
  have c5b0 : decide (a2 < 0) = false := decide_eq_false c5
  clear c5
  by_cases c6 : a2 ≥ (wrap64 (t133 * t134))
  ·rw [if_pos c6] at H
   have c6b0 : decide ((wrap64 (t133 * t134)) ≤ a2) = true := decide_eq_true c6
   clear c6
   simp only [Option.some.injEq, Prod.mk.injEq] at H
   obtain ⟨rfl, rfl, rfl⟩ := H
   go_enter Tryz.func129, Tryz.ntmps129
   go_wp2_with (first | (go_at_call 71; (try simp only [show ∀ n_ : Int, IntKind.i64.wrap n_ = wrap64 n_ from fun n_ => IntKind.wrap_i64 n_]); (with_reducible refine (where_Sectors.calls a0 a1 t133 t134 _ A4.out).mono ?_); rintro e w' ⟨rfl, ⟨nd, rfl⟩⟩; (try first | exact ⟨rfl, _, World.drewN_drewN _ _ _⟩ | exact ⟨rfl, _, Eq.trans (World.drewN_drewN _ _ _) (congrArg (World.drewN _) (Nat.add_assoc _ _ _))⟩)))
   repeat (go_quiet (first | (go_at_call 71; (try simp only [show ∀ n_ : Int, IntKind.i64.wrap n_ = wrap64 n_ from fun n_ => IntKind.wrap_i64 n_]); (with_reducible refine (where_Sectors.calls a0 a1 t133 t134 _ A4.out).mono ?_); rintro e w' ⟨rfl, ⟨nd, rfl⟩⟩; (try first | exact ⟨rfl, _, World.drewN_drewN _ _ _⟩ | exact ⟨rfl, _, Eq.trans (World.drewN_drewN _ _ _) (congrArg (World.drewN _) (Nat.add_assoc _ _ _))⟩))); try go_wp2_with (first | (go_at_call 71; (try simp only [show ∀ n_ : Int, IntKind.i64.wrap n_ = wrap64 n_ from fun n_ => IntKind.wrap_i64 n_]); (with_reducible refine (where_Sectors.calls a0 a1 t133 t134 _ A4.out).mono ?_); rintro e w' ⟨rfl, ⟨nd, rfl⟩⟩; (try first | exact ⟨rfl, _, World.drewN_drewN _ _ _⟩ | exact ⟨rfl, _, Eq.trans (World.drewN_drewN _ _ _) (congrArg (World.drewN _) (Nat.add_assoc _ _ _))⟩))))
   go_ret3
   exact ⟨by first | rfl | (simp; done) | (simp [*]; done), by repeat (first | exact Drawn0.refl _ | apply Drawn0.step)⟩
  ·rw [if_neg c6] at H
   have c6b0 : decide ((wrap64 (t133 * t134)) ≤ a2) = false := decide_eq_false c6
   clear c6
   by_cases c7 : t133 = 0
   ·rw [if_pos c7] at H
    exact absurd H (by simp)
   ·rw [if_neg c7] at H
    have c7b0 : (t133 == 0) = false := beq_eq_false_iff_ne.mpr c7
    have c7b1 : (t133 != 0) = true := bne_iff_ne.mpr c7
    simp only [Option.some.injEq, Prod.mk.injEq] at H
    obtain ⟨rfl, rfl, rfl⟩ := H
    go_enter Tryz.func129, Tryz.ntmps129
    go_wp2_with (first | (go_at_call 71; (try simp only [show ∀ n_ : Int, IntKind.i64.wrap n_ = wrap64 n_ from fun n_ => IntKind.wrap_i64 n_]); (with_reducible refine (where_Sectors.calls a0 a1 t133 t134 _ A4.out).mono ?_); rintro e w' ⟨rfl, ⟨nd, rfl⟩⟩; (try first | exact ⟨rfl, _, World.drewN_drewN _ _ _⟩ | exact ⟨rfl, _, Eq.trans (World.drewN_drewN _ _ _) (congrArg (World.drewN _) (Nat.add_assoc _ _ _))⟩)))
    repeat (go_quiet (first | (go_at_call 71; (try simp only [show ∀ n_ : Int, IntKind.i64.wrap n_ = wrap64 n_ from fun n_ => IntKind.wrap_i64 n_]); (with_reducible refine (where_Sectors.calls a0 a1 t133 t134 _ A4.out).mono ?_); rintro e w' ⟨rfl, ⟨nd, rfl⟩⟩; (try first | exact ⟨rfl, _, World.drewN_drewN _ _ _⟩ | exact ⟨rfl, _, Eq.trans (World.drewN_drewN _ _ _) (congrArg (World.drewN _) (Nat.add_assoc _ _ _))⟩))); try go_wp2_with (first | (go_at_call 71; (try simp only [show ∀ n_ : Int, IntKind.i64.wrap n_ = wrap64 n_ from fun n_ => IntKind.wrap_i64 n_]); (with_reducible refine (where_Sectors.calls a0 a1 t133 t134 _ A4.out).mono ?_); rintro e w' ⟨rfl, ⟨nd, rfl⟩⟩; (try first | exact ⟨rfl, _, World.drewN_drewN _ _ _⟩ | exact ⟨rfl, _, Eq.trans (World.drewN_drewN _ _ _) (congrArg (World.drewN _) (Nat.add_assoc _ _ _))⟩))))
    go_ret3
    exact ⟨by first | rfl | (simp; done) | (simp [*]; done), by repeat (first | exact Drawn0.refl _ | apply Drawn0.step)⟩
end Go.Proofs.YthgehdembghdaaaGreat.P
namespace Go.Proofs.YthgehdembghdaaaGreat.P
open Go.RowKit Go.Proofs.YthgehdembghdaaaGreatW.PrintWords Go.Proofs.YthgehdembghdaaaGreatW.PrintLast Go.Proofs.YthgehdembghdaaaGreatW.PrintMore
attribute [local go_sem] max2_int min2_int max_two min_two max_three min_three max_four min_four   -- for this text's walks alone
set_option linter.unusedVariables false
set_option linter.unusedSimpArgs false
def where_Size.f (a0 : Int) (a1 : Int) (a2 : Int) : Option (Int × Int) := (where_corner.f a0 a1 a2).bind fun bt135 => (if bt135.2.2 = true then (some (mn 16 (wrap64 (a0 - bt135.1)), mn 16 (wrap64 (a1 - bt135.2.1)))) else (some (0, 0)))
set_option maxHeartbeats 8000000 in
set_option maxRecDepth 100000 in
theorem where_Size.calls (a0 : Int) (a1 : Int) (a2 : Int) (r1 : Int) (r2 : Int) (w : World) (h : where_Size.f a0 a1 a2 = some (r1, r2)) :
  Calls Tryz.prog 100 #[.int .i64 a0, .int .i64 a1, .int .i64 a2] w fun e w' => e = .returned (.tuple #[.int .i64 r1, .int .i64 r2]) ∧ Below w.heap.size w w' := by
 have HB := Aside0.mk (Below.refl w.heap.size w)
 have H : ((where_corner.f a0 a1 a2).bind fun bt135 => (if bt135.2.2 = true then (some (mn 16 (wrap64 (a0 - bt135.1)), mn 16 (wrap64 (a1 - bt135.2.1)))) else (some (0, 0)))) = some (r1, r2) := h
 clear h
 replace H := Option.bind_eq_some_iff.mp H
 obtain ⟨⟨t135, t136, t137⟩, A40, H⟩ := H
 replace H : (if t137 = true then (some (mn 16 (wrap64 (a0 - t135)), mn 16 (wrap64 (a1 - t136)))) else (some (0, 0))) = some (r1, r2) := H
 have A4 := Aside0.mk A40
 clear A40
 by_cases c5 : t137 = true
 ·subst c5
  have H1 : (some (mn 16 (wrap64 (a0 - t135)), mn 16 (wrap64 (a1 - t136)))) = some (r1, r2) := by rw [if_pos rfl] at H; exact H
  clear H
  have H := H1
  clear H1
  obtain ⟨ji6, hji6⟩ : ∃ j_ : Int, (mn 16 (wrap64 (a0 - t135))) = j_ := ⟨_, rfl⟩
  replace H : (some (ji6, mn 16 (wrap64 (a1 - t136)))) = some (r1, r2) := by first | (rw [hji6] at H; exact H) | (simp only [hji6] at H ⊢; exact H)
  (try rw [hji6] at A4)
  (try (have hji6h : ji6 ≤ 16 := by (rw [← hji6]; unfold mn; (repeat' split) <;> omega)))
  (try (have hji6g : ji6 ≤ 64 := by omega))
  have hji6_ : (if (wrap64 (a0 - t135)) < 16 then (wrap64 (a0 - t135)) else 16) = ji6 := hji6
  obtain ⟨ji7, hji7⟩ : ∃ j_ : Int, (mn 16 (wrap64 (a1 - t136))) = j_ := ⟨_, rfl⟩
  replace H : (some (ji6, ji7)) = some (r1, r2) := by first | (rw [hji7] at H; exact H) | (simp only [hji7] at H ⊢; exact H)
  (try rw [hji7] at A4)
  (try (have hji7h : ji7 ≤ 16 := by (rw [← hji7]; unfold mn; (repeat' split) <;> omega)))
  (try (have hji7g : ji7 ≤ 64 := by omega))
  have hji7_ : (if (wrap64 (a1 - t136)) < 16 then (wrap64 (a1 - t136)) else 16) = ji7 := hji7
  simp only [Option.some.injEq, Prod.mk.injEq] at H
  obtain ⟨rfl, rfl⟩ := H
  go_enter Tryz.func100, Tryz.ntmps100
  go_wp2_with (first | ((with_reducible refine gate_callee (f := 129) rfl ?_); refine goesL_ (some 15) rfl rfl Tryz.func129 (by kernel_rfl) rfl #[.int .i64 a0, .int .i64 a1, .int .i64 a2] rfl (by (try simp only [List.map_toArray, List.map_cons, List.map_nil]); first | done | rfl | (simp only [List.length_drop, List.length_take]; rfl)) ?_; (with_reducible refine (where_corner.calls a0 a1 a2 t135 t136 true _ A4.out).mono ?_); rintro e w' ⟨rfl, ⟨nd, rfl⟩⟩; refine ⟨_, rfl, ?_⟩))
  go_ret2
  exact ⟨by first | rfl | (simp [errW_none, errW_some] <;> rfl) | (simp only [← hji6, ← hji7]; first | rfl | (simp [errW_none, errW_some] <;> rfl)) | (simp [*, errW_none, errW_some] <;> rfl), by repeat (first | (with_reducible first | exact HB.out | apply below_alloc | apply pw_below_drewN | apply below_drew1) | exact HB.out)⟩
 ·replace c5 := Bool.eq_false_iff.mpr c5
  subst c5
  have H1 : (some (0, 0)) = some (r1, r2) := by rw [if_neg (show ¬ (false = true) by decide)] at H; exact H
  clear H
  have H := H1
  clear H1
  simp only [Option.some.injEq, Prod.mk.injEq] at H
  obtain ⟨rfl, rfl⟩ := H
  go_enter Tryz.func100, Tryz.ntmps100
  go_wp2_with (first | ((with_reducible refine gate_callee (f := 129) rfl ?_); refine goesL_ (some 15) rfl rfl Tryz.func129 (by kernel_rfl) rfl #[.int .i64 a0, .int .i64 a1, .int .i64 a2] rfl (by (try simp only [List.map_toArray, List.map_cons, List.map_nil]); first | done | rfl | (simp only [List.length_drop, List.length_take]; rfl)) ?_; (with_reducible refine (where_corner.calls a0 a1 a2 t135 t136 false _ A4.out).mono ?_); rintro e w' ⟨rfl, ⟨nd, rfl⟩⟩; refine ⟨_, rfl, ?_⟩))
  go_ret2
  exact ⟨by first | rfl | (simp [errW_none, errW_some] <;> rfl) | (simp [*, errW_none, errW_some] <;> rfl), by repeat (first | (with_reducible first | exact HB.out | apply below_alloc | apply pw_below_drewN | apply below_drew1) | exact HB.out)⟩
end Go.Proofs.YthgehdembghdaaaGreat.P
namespace Go.Proofs.YthgehdembghdaaaGreat.P
open Go.RowKit Go.Proofs.YthgehdembghdaaaGreatW.PrintWords Go.Proofs.YthgehdembghdaaaGreatW.PrintLast Go.Proofs.YthgehdembghdaaaGreatW.PrintMore
attribute [local go_sem] max2_int min2_int max_two min_two max_three min_three max_four min_four   -- for this text's walks alone
set_option linter.unusedVariables false
set_option linter.unusedSimpArgs false
def where_Cell.f (a0 : Int) (a1 : Int) (a2 : Int) (a3 : Int) : Option (Int) := (where_May.f a0 a1).bind fun t138 => (if t138 = true then (if a2 < 0 then (some (-1)) else (if a2 ≥ a0 then (some (-1)) else (if a3 < 0 then (some (-1)) else (if a3 ≥ a1 then (some (-1)) else (some (wrap64 ((wrap64 (a3 * a0)) + a2))))))) else (some (-1)))
set_option maxHeartbeats 8000000 in
set_option maxRecDepth 100000 in
theorem where_Cell.calls (a0 : Int) (a1 : Int) (a2 : Int) (a3 : Int) (r : Int) (w : World) (h : where_Cell.f a0 a1 a2 a3 = some r) :
  Calls Tryz.prog 112 #[.int .i64 a0, .int .i64 a1, .int .i64 a2, .int .i64 a3] w fun e w' => e = .returned (.int .i64 r) ∧ Drawn0 w w' := by
 have H : ((where_May.f a0 a1).bind fun t138 => (if t138 = true then (if a2 < 0 then (some (-1)) else (if a2 ≥ a0 then (some (-1)) else (if a3 < 0 then (some (-1)) else (if a3 ≥ a1 then (some (-1)) else (some (wrap64 ((wrap64 (a3 * a0)) + a2))))))) else (some (-1)))) = some r := h
 clear h
 replace H := Option.bind_eq_some_iff.mp H
 obtain ⟨t138, A50, H⟩ := H
 replace H : (if t138 = true then (if a2 < 0 then (some (-1)) else (if a2 ≥ a0 then (some (-1)) else (if a3 < 0 then (some (-1)) else (if a3 ≥ a1 then (some (-1)) else (some (wrap64 ((wrap64 (a3 * a0)) + a2))))))) else (some (-1))) = some r := H
 have A5 := Aside0.mk A50
 clear A50
 by_cases c6 : t138 = true
 ·subst c6
  have H1 : (if a2 < 0 then (some (-1)) else (if a2 ≥ a0 then (some (-1)) else (if a3 < 0 then (some (-1)) else (if a3 ≥ a1 then (some (-1)) else (some (wrap64 ((wrap64 (a3 * a0)) + a2))))))) = some r := by rw [if_pos rfl] at H; exact H
  clear H
  have H := H1
  clear H1
  by_cases c7 : a2 < 0
  ·rw [if_pos c7] at H
   have c7b0 : decide (a2 < 0) = true := decide_eq_true c7
   clear c7
   obtain rfl := Option.some.inj H
   go_enter Tryz.func112, Tryz.ntmps112
   go_wp2_with (first | ((with_reducible refine gate_callee (f := 109) rfl ?_); refine goesL_ (some 11) rfl rfl Tryz.func109 (by kernel_rfl) rfl #[.int .i64 a0, .int .i64 a1] rfl (by (try simp only [List.map_toArray, List.map_cons, List.map_nil]); first | done | rfl | (simp only [List.length_drop, List.length_take]; rfl)) ?_; (with_reducible refine (where_May.calls a0 a1 true _ A5.out).mono ?_); rintro e w' ⟨rfl, ⟨nd, rfl⟩⟩; refine ⟨_, rfl, ?_⟩))
   go_ret
   exact ⟨by first | rfl | (simp; done) | (simp [*]; done), by repeat (first | exact Drawn0.refl _ | apply Drawn0.step)⟩
  ·rw [if_neg c7] at H
   have c7b0 : decide (a2 < 0) = false := decide_eq_false c7
   clear c7
   by_cases c8 : a2 ≥ a0
   ·rw [if_pos c8] at H
    have c8b0 : decide (a0 ≤ a2) = true := decide_eq_true c8
    clear c8
    obtain rfl := Option.some.inj H
    go_enter Tryz.func112, Tryz.ntmps112
    go_wp2_with (first | ((with_reducible refine gate_callee (f := 109) rfl ?_); refine goesL_ (some 11) rfl rfl Tryz.func109 (by kernel_rfl) rfl #[.int .i64 a0, .int .i64 a1] rfl (by (try simp only [List.map_toArray, List.map_cons, List.map_nil]); first | done | rfl | (simp only [List.length_drop, List.length_take]; rfl)) ?_; (with_reducible refine (where_May.calls a0 a1 true _ A5.out).mono ?_); rintro e w' ⟨rfl, ⟨nd, rfl⟩⟩; refine ⟨_, rfl, ?_⟩))
    go_ret
    exact ⟨by first | rfl | (simp; done) | (simp [*]; done), by repeat (first | exact Drawn0.refl _ | apply Drawn0.step)⟩
   ·rw [if_neg c8] at H
    have c8b0 : decide (a0 ≤ a2) = false := decide_eq_false c8
    clear c8
    by_cases c9 : a3 < 0
    ·rw [if_pos c9] at H
     have c9b0 : decide (a3 < 0) = true := decide_eq_true c9
     clear c9
     obtain rfl := Option.some.inj H
     go_enter Tryz.func112, Tryz.ntmps112
     go_wp2_with (first | ((with_reducible refine gate_callee (f := 109) rfl ?_); refine goesL_ (some 11) rfl rfl Tryz.func109 (by kernel_rfl) rfl #[.int .i64 a0, .int .i64 a1] rfl (by (try simp only [List.map_toArray, List.map_cons, List.map_nil]); first | done | rfl | (simp only [List.length_drop, List.length_take]; rfl)) ?_; (with_reducible refine (where_May.calls a0 a1 true _ A5.out).mono ?_); rintro e w' ⟨rfl, ⟨nd, rfl⟩⟩; refine ⟨_, rfl, ?_⟩))
     go_ret
     exact ⟨by first | rfl | (simp; done) | (simp [*]; done), by repeat (first | exact Drawn0.refl _ | apply Drawn0.step)⟩
    ·rw [if_neg c9] at H
     have c9b0 : decide (a3 < 0) = false := decide_eq_false c9
     clear c9
     by_cases c10 : a3 ≥ a1
     ·rw [if_pos c10] at H
      have c10b0 : decide (a1 ≤ a3) = true := decide_eq_true c10
      clear c10
      obtain rfl := Option.some.inj H
      go_enter Tryz.func112, Tryz.ntmps112
      go_wp2_with (first | ((with_reducible refine gate_callee (f := 109) rfl ?_); refine goesL_ (some 11) rfl rfl Tryz.func109 (by kernel_rfl) rfl #[.int .i64 a0, .int .i64 a1] rfl (by (try simp only [List.map_toArray, List.map_cons, List.map_nil]); first | done | rfl | (simp only [List.length_drop, List.length_take]; rfl)) ?_; (with_reducible refine (where_May.calls a0 a1 true _ A5.out).mono ?_); rintro e w' ⟨rfl, ⟨nd, rfl⟩⟩; refine ⟨_, rfl, ?_⟩))
      go_ret
      exact ⟨by first | rfl | (simp; done) | (simp [*]; done), by repeat (first | exact Drawn0.refl _ | apply Drawn0.step)⟩
     ·rw [if_neg c10] at H
      have c10b0 : decide (a1 ≤ a3) = false := decide_eq_false c10
      clear c10
      obtain rfl := Option.some.inj H
      go_enter Tryz.func112, Tryz.ntmps112
      go_wp2_with (first | ((with_reducible refine gate_callee (f := 109) rfl ?_); refine goesL_ (some 11) rfl rfl Tryz.func109 (by kernel_rfl) rfl #[.int .i64 a0, .int .i64 a1] rfl (by (try simp only [List.map_toArray, List.map_cons, List.map_nil]); first | done | rfl | (simp only [List.length_drop, List.length_take]; rfl)) ?_; (with_reducible refine (where_May.calls a0 a1 true _ A5.out).mono ?_); rintro e w' ⟨rfl, ⟨nd, rfl⟩⟩; refine ⟨_, rfl, ?_⟩))
      go_ret
      exact ⟨by first | rfl | (simp; done) | (simp [*]; done), by repeat (first | exact Drawn0.refl _ | apply Drawn0.step)⟩
 ·replace c6 := Bool.eq_false_iff.mpr c6
  subst c6
  have H1 : (some (-1)) = some r := by rw [if_neg (show ¬ (false = true) by decide)] at H; exact H
  clear H
  have H := H1
  clear H1
  obtain rfl := Option.some.inj H
  go_enter Tryz.func112, Tryz.ntmps112
  go_wp2_with (first | ((with_reducible refine gate_callee (f := 109) rfl ?_); refine goesL_ (some 11) rfl rfl Tryz.func109 (by kernel_rfl) rfl #[.int .i64 a0, .int .i64 a1] rfl (by (try simp only [List.map_toArray, List.map_cons, List.map_nil]); first | done | rfl | (simp only [List.length_drop, List.length_take]; rfl)) ?_; (with_reducible refine (where_May.calls a0 a1 false _ A5.out).mono ?_); rintro e w' ⟨rfl, ⟨nd, rfl⟩⟩; refine ⟨_, rfl, ?_⟩))
  go_ret
  exact ⟨by first | rfl | (simp; done) | (simp [*]; done), by repeat (first | exact Drawn0.refl _ | apply Drawn0.step)⟩
end Go.Proofs.YthgehdembghdaaaGreat.P
namespace Go.Proofs.YthgehdembghdaaaGreat.P
open Go.RowKit Go.Proofs.YthgehdembghdaaaGreatW.PrintWords Go.Proofs.YthgehdembghdaaaGreatW.PrintLast Go.Proofs.YthgehdembghdaaaGreatW.PrintMore
attribute [local go_sem] max2_int min2_int max_two min_two max_three min_three max_four min_four   -- for this text's walks alone
set_option linter.unusedVariables false
set_option linter.unusedSimpArgs false
def where_Global.f (a0 : Int) (a1 : Int) (a2 : Int) (a3 : Int) : Option (Int) := (where_corner.f a0 a1 a2).bind fun bt139 => ((where_Size.f a0 a1 a2).bind fun bt142 => (if bt139.2.2 = true then (if a3 < 0 then (some (-1)) else (if a3 ≥ (wrap64 (bt142.1 * bt142.2)) then (some (-1)) else (if bt142.1 = 0 then (none) else ((where_Cell.f a0 a1 (wrap64 (bt139.1 + (Int.tmod a3 bt142.1))) (wrap64 (bt139.2.1 + (wrap64 (Int.tdiv a3 bt142.1))))).bind fun t144 => (some t144))))) else (some (-1))))
set_option maxHeartbeats 8000000 in
set_option maxRecDepth 100000 in
theorem where_Global.calls (a0 : Int) (a1 : Int) (a2 : Int) (a3 : Int) (r : Int) (w : World) (h : where_Global.f a0 a1 a2 a3 = some r) :
  Calls Tryz.prog 101 #[.int .i64 a0, .int .i64 a1, .int .i64 a2, .int .i64 a3] w fun e w' => e = .returned (.int .i64 r) ∧ Below w.heap.size w w' := by
 have HB := Aside0.mk (Below.refl w.heap.size w)
 have H : ((where_corner.f a0 a1 a2).bind fun bt139 => ((where_Size.f a0 a1 a2).bind fun bt142 => (if bt139.2.2 = true then (if a3 < 0 then (some (-1)) else (if a3 ≥ (wrap64 (bt142.1 * bt142.2)) then (some (-1)) else (if bt142.1 = 0 then (none) else ((where_Cell.f a0 a1 (wrap64 (bt139.1 + (Int.tmod a3 bt142.1))) (wrap64 (bt139.2.1 + (wrap64 (Int.tdiv a3 bt142.1))))).bind fun t144 => (some t144))))) else (some (-1))))) = some r := h
 clear h
 replace H := Option.bind_eq_some_iff.mp H
 obtain ⟨⟨t139, t140, t141⟩, A50, H⟩ := H
 replace H : ((where_Size.f a0 a1 a2).bind fun bt142 => (if t141 = true then (if a3 < 0 then (some (-1)) else (if a3 ≥ (wrap64 (bt142.1 * bt142.2)) then (some (-1)) else (if bt142.1 = 0 then (none) else ((where_Cell.f a0 a1 (wrap64 (t139 + (Int.tmod a3 bt142.1))) (wrap64 (t140 + (wrap64 (Int.tdiv a3 bt142.1))))).bind fun t144 => (some t144))))) else (some (-1)))) = some r := H
 have A5 := Aside0.mk A50
 clear A50
 replace H := Option.bind_eq_some_iff.mp H
 obtain ⟨⟨t142, t143⟩, A60, H⟩ := H
 replace H : (if t141 = true then (if a3 < 0 then (some (-1)) else (if a3 ≥ (wrap64 (t142 * t143)) then (some (-1)) else (if t142 = 0 then (none) else ((where_Cell.f a0 a1 (wrap64 (t139 + (Int.tmod a3 t142))) (wrap64 (t140 + (wrap64 (Int.tdiv a3 t142))))).bind fun t144 => (some t144))))) else (some (-1))) = some r := H
 have A6 := Aside0.mk A60
 clear A60
 by_cases c7 : t141 = true
 ·subst c7
  have H1 : (if a3 < 0 then (some (-1)) else (if a3 ≥ (wrap64 (t142 * t143)) then (some (-1)) else (if t142 = 0 then (none) else ((where_Cell.f a0 a1 (wrap64 (t139 + (Int.tmod a3 t142))) (wrap64 (t140 + (wrap64 (Int.tdiv a3 t142))))).bind fun t144 => (some t144))))) = some r := by rw [if_pos rfl] at H; exact H
  clear H
  have H := H1
  clear H1
  by_cases c8 : a3 < 0
  ·rw [if_pos c8] at H
   have c8b0 : decide (a3 < 0) = true := decide_eq_true c8
   clear c8
   obtain rfl := Option.some.inj H
   go_enter Tryz.func101, Tryz.ntmps101
   go_wp2_with (first | (go_at_call 129; (try simp only [show ∀ n_ : Int, IntKind.i64.wrap n_ = wrap64 n_ from fun n_ => IntKind.wrap_i64 n_]); (with_reducible refine (where_corner.calls a0 a1 a2 t139 t140 true _ A5.out).mono ?_); rintro e w' ⟨rfl, ⟨nd, rfl⟩⟩; (try first | exact ⟨rfl, _, World.drewN_drewN _ _ _⟩ | exact ⟨rfl, _, Eq.trans (World.drewN_drewN _ _ _) (congrArg (World.drewN _) (Nat.add_assoc _ _ _))⟩)) | (go_at_call 100; (try simp only [show ∀ n_ : Int, IntKind.i64.wrap n_ = wrap64 n_ from fun n_ => IntKind.wrap_i64 n_]); (with_reducible refine (where_Size.calls a0 a1 a2 t142 t143 _ A6.out).mono ?_); rintro e w9 ⟨rfl, hb⟩; have n0_ := Aside0.mk (below_step (by repeat (first | (with_reducible first | exact HB.out | apply below_alloc | apply pw_below_drewN | apply below_drew1) | exact HB.out)) hb); clear HB; have HB := n0_; clear n0_; (try clear hb); (try clear hb2); (try clear hk); (try clear hi)))
   repeat (go_quiet (first | (go_at_call 129; (try simp only [show ∀ n_ : Int, IntKind.i64.wrap n_ = wrap64 n_ from fun n_ => IntKind.wrap_i64 n_]); (with_reducible refine (where_corner.calls a0 a1 a2 t139 t140 true _ A5.out).mono ?_); rintro e w' ⟨rfl, ⟨nd, rfl⟩⟩; (try first | exact ⟨rfl, _, World.drewN_drewN _ _ _⟩ | exact ⟨rfl, _, Eq.trans (World.drewN_drewN _ _ _) (congrArg (World.drewN _) (Nat.add_assoc _ _ _))⟩)) | (go_at_call 100; (try simp only [show ∀ n_ : Int, IntKind.i64.wrap n_ = wrap64 n_ from fun n_ => IntKind.wrap_i64 n_]); (with_reducible refine (where_Size.calls a0 a1 a2 t142 t143 _ A6.out).mono ?_); rintro e w9 ⟨rfl, hb⟩; have n0_ := Aside0.mk (below_step (by repeat (first | (with_reducible first | exact HB.out | apply below_alloc | apply pw_below_drewN | apply below_drew1) | exact HB.out)) hb); clear HB; have HB := n0_; clear n0_; (try clear hb); (try clear hb2); (try clear hk); (try clear hi))); try go_wp2_with (first | (go_at_call 129; (try simp only [show ∀ n_ : Int, IntKind.i64.wrap n_ = wrap64 n_ from fun n_ => IntKind.wrap_i64 n_]); (with_reducible refine (where_corner.calls a0 a1 a2 t139 t140 true _ A5.out).mono ?_); rintro e w' ⟨rfl, ⟨nd, rfl⟩⟩; (try first | exact ⟨rfl, _, World.drewN_drewN _ _ _⟩ | exact ⟨rfl, _, Eq.trans (World.drewN_drewN _ _ _) (congrArg (World.drewN _) (Nat.add_assoc _ _ _))⟩)) | (go_at_call 100; (try simp only [show ∀ n_ : Int, IntKind.i64.wrap n_ = wrap64 n_ from fun n_ => IntKind.wrap_i64 n_]); (with_reducible refine (where_Size.calls a0 a1 a2 t142 t143 _ A6.out).mono ?_); rintro e w9 ⟨rfl, hb⟩; have n0_ := Aside0.mk (below_step (by repeat (first | (with_reducible first | exact HB.out | apply below_alloc | apply pw_below_drewN | apply below_drew1) | exact HB.out)) hb); clear HB; have HB := n0_; clear n0_; (try clear hb); (try clear hb2); (try clear hk); (try clear hi))))
   go_ret
   exact ⟨by first | rfl | (simp [errW_none, errW_some] <;> rfl) | (simp [*, errW_none, errW_some] <;> rfl), by repeat (first | (with_reducible first | exact HB.out | apply below_alloc | apply pw_below_drewN | apply below_drew1) | exact HB.out)⟩
  ·rw [if_neg c8] at H
   have c8b0 : decide (a3 < 0) = false := decide_eq_false c8
   clear c8
   by_cases c10 : a3 ≥ (wrap64 (t142 * t143))
   ·rw [if_pos c10] at H
    have c10b0 : decide ((wrap64 (t142 * t143)) ≤ a3) = true := decide_eq_true c10
    clear c10
    obtain rfl := Option.some.inj H
    go_enter Tryz.func101, Tryz.ntmps101
    go_wp2_with (first | (go_at_call 129; (try simp only [show ∀ n_ : Int, IntKind.i64.wrap n_ = wrap64 n_ from fun n_ => IntKind.wrap_i64 n_]); (with_reducible refine (where_corner.calls a0 a1 a2 t139 t140 true _ A5.out).mono ?_); rintro e w' ⟨rfl, ⟨nd, rfl⟩⟩; (try first | exact ⟨rfl, _, World.drewN_drewN _ _ _⟩ | exact ⟨rfl, _, Eq.trans (World.drewN_drewN _ _ _) (congrArg (World.drewN _) (Nat.add_assoc _ _ _))⟩)) | (go_at_call 100; (try simp only [show ∀ n_ : Int, IntKind.i64.wrap n_ = wrap64 n_ from fun n_ => IntKind.wrap_i64 n_]); (with_reducible refine (where_Size.calls a0 a1 a2 t142 t143 _ A6.out).mono ?_); rintro e w11 ⟨rfl, hb⟩; have n0_ := Aside0.mk (below_step (by repeat (first | (with_reducible first | exact HB.out | apply below_alloc | apply pw_below_drewN | apply below_drew1) | exact HB.out)) hb); clear HB; have HB := n0_; clear n0_; (try clear hb); (try clear hb2); (try clear hk); (try clear hi)))
    repeat (go_quiet (first | (go_at_call 129; (try simp only [show ∀ n_ : Int, IntKind.i64.wrap n_ = wrap64 n_ from fun n_ => IntKind.wrap_i64 n_]); (with_reducible refine (where_corner.calls a0 a1 a2 t139 t140 true _ A5.out).mono ?_); rintro e w' ⟨rfl, ⟨nd, rfl⟩⟩; (try first | exact ⟨rfl, _, World.drewN_drewN _ _ _⟩ | exact ⟨rfl, _, Eq.trans (World.drewN_drewN _ _ _) (congrArg (World.drewN _) (Nat.add_assoc _ _ _))⟩)) | (go_at_call 100; (try simp only [show ∀ n_ : Int, IntKind.i64.wrap n_ = wrap64 n_ from fun n_ => IntKind.wrap_i64 n_]); (with_reducible refine (where_Size.calls a0 a1 a2 t142 t143 _ A6.out).mono ?_); rintro e w11 ⟨rfl, hb⟩; have n0_ := Aside0.mk (below_step (by repeat (first | (with_reducible first | exact HB.out | apply below_alloc | apply pw_below_drewN | apply below_drew1) | exact HB.out)) hb); clear HB; have HB := n0_; clear n0_; (try clear hb); (try clear hb2); (try clear hk); (try clear hi))); try go_wp2_with (first | (go_at_call 129; (try simp only [show ∀ n_ : Int, IntKind.i64.wrap n_ = wrap64 n_ from fun n_ => IntKind.wrap_i64 n_]); (with_reducible refine (where_corner.calls a0 a1 a2 t139 t140 true _ A5.out).mono ?_); rintro e w' ⟨rfl, ⟨nd, rfl⟩⟩; (try first | exact ⟨rfl, _, World.drewN_drewN _ _ _⟩ | exact ⟨rfl, _, Eq.trans (World.drewN_drewN _ _ _) (congrArg (World.drewN _) (Nat.add_assoc _ _ _))⟩)) | (go_at_call 100; (try simp only [show ∀ n_ : Int, IntKind.i64.wrap n_ = wrap64 n_ from fun n_ => IntKind.wrap_i64 n_]); (with_reducible refine (where_Size.calls a0 a1 a2 t142 t143 _ A6.out).mono ?_); rintro e w11 ⟨rfl, hb⟩; have n0_ := Aside0.mk (below_step (by repeat (first | (with_reducible first | exact HB.out | apply below_alloc | apply pw_below_drewN | apply below_drew1) | exact HB.out)) hb); clear HB; have HB := n0_; clear n0_; (try clear hb); (try clear hb2); (try clear hk); (try clear hi))))
    go_ret
    exact ⟨by first | rfl | (simp [errW_none, errW_some] <;> rfl) | (simp [*, errW_none, errW_some] <;> rfl), by repeat (first | (with_reducible first | exact HB.out | apply below_alloc | apply pw_below_drewN | apply below_drew1) | exact HB.out)⟩
   ·rw [if_neg c10] at H
    have c10b0 : decide ((wrap64 (t142 * t143)) ≤ a3) = false := decide_eq_false c10
    clear c10
    by_cases c12 : t142 = 0
    ·rw [if_pos c12] at H
     exact absurd H (by simp)
    ·rw [if_neg c12] at H
     have c12b0 : (t142 == 0) = false := beq_eq_false_iff_ne.mpr c12
     have c12b1 : (t142 != 0) = true := bne_iff_ne.mpr c12
     replace H := Option.bind_eq_some_iff.mp H
     obtain ⟨t144, A130, H⟩ := H
     replace H : (some t144) = some r := H
     have A13 := Aside0.mk A130
     clear A130
     obtain rfl := Option.some.inj H
     go_enter Tryz.func101, Tryz.ntmps101
     go_wp2_with (first | (go_at_call 129; (try simp only [show ∀ n_ : Int, IntKind.i64.wrap n_ = wrap64 n_ from fun n_ => IntKind.wrap_i64 n_]); (with_reducible refine (where_corner.calls a0 a1 a2 t139 t140 true _ A5.out).mono ?_); rintro e w' ⟨rfl, ⟨nd, rfl⟩⟩; (try first | exact ⟨rfl, _, World.drewN_drewN _ _ _⟩ | exact ⟨rfl, _, Eq.trans (World.drewN_drewN _ _ _) (congrArg (World.drewN _) (Nat.add_assoc _ _ _))⟩)) | (go_at_call 100; (try simp only [show ∀ n_ : Int, IntKind.i64.wrap n_ = wrap64 n_ from fun n_ => IntKind.wrap_i64 n_]); (with_reducible refine (where_Size.calls a0 a1 a2 t142 t143 _ A6.out).mono ?_); rintro e w14 ⟨rfl, hb⟩; have n0_ := Aside0.mk (below_step (by repeat (first | (with_reducible first | exact HB.out | apply below_alloc | apply pw_below_drewN | apply below_drew1) | exact HB.out)) hb); clear HB; have HB := n0_; clear n0_; (try clear hb); (try clear hb2); (try clear hk); (try clear hi)) | (go_at_call 112; (try simp only [show ∀ n_ : Int, IntKind.i64.wrap n_ = wrap64 n_ from fun n_ => IntKind.wrap_i64 n_]); (with_reducible refine (where_Cell.calls a0 a1 (wrap64 (t139 + (Int.tmod a3 t142))) (wrap64 (t140 + (wrap64 (Int.tdiv a3 t142)))) t144 _ A13.out).mono ?_); rintro e w' ⟨rfl, ⟨nd, rfl⟩⟩; (try first | exact ⟨rfl, _, World.drewN_drewN _ _ _⟩ | exact ⟨rfl, _, Eq.trans (World.drewN_drewN _ _ _) (congrArg (World.drewN _) (Nat.add_assoc _ _ _))⟩)))
     repeat (go_quiet (first | (go_at_call 129; (try simp only [show ∀ n_ : Int, IntKind.i64.wrap n_ = wrap64 n_ from fun n_ => IntKind.wrap_i64 n_]); (with_reducible refine (where_corner.calls a0 a1 a2 t139 t140 true _ A5.out).mono ?_); rintro e w' ⟨rfl, ⟨nd, rfl⟩⟩; (try first | exact ⟨rfl, _, World.drewN_drewN _ _ _⟩ | exact ⟨rfl, _, Eq.trans (World.drewN_drewN _ _ _) (congrArg (World.drewN _) (Nat.add_assoc _ _ _))⟩)) | (go_at_call 100; (try simp only [show ∀ n_ : Int, IntKind.i64.wrap n_ = wrap64 n_ from fun n_ => IntKind.wrap_i64 n_]); (with_reducible refine (where_Size.calls a0 a1 a2 t142 t143 _ A6.out).mono ?_); rintro e w14 ⟨rfl, hb⟩; have n0_ := Aside0.mk (below_step (by repeat (first | (with_reducible first | exact HB.out | apply below_alloc | apply pw_below_drewN | apply below_drew1) | exact HB.out)) hb); clear HB; have HB := n0_; clear n0_; (try clear hb); (try clear hb2); (try clear hk); (try clear hi)) | (go_at_call 112; (try simp only [show ∀ n_ : Int, IntKind.i64.wrap n_ = wrap64 n_ from fun n_ => IntKind.wrap_i64 n_]); (with_reducible refine (where_Cell.calls a0 a1 (wrap64 (t139 + (Int.tmod a3 t142))) (wrap64 (t140 + (wrap64 (Int.tdiv a3 t142)))) t144 _ A13.out).mono ?_); rintro e w' ⟨rfl, ⟨nd, rfl⟩⟩; (try first | exact ⟨rfl, _, World.drewN_drewN _ _ _⟩ | exact ⟨rfl, _, Eq.trans (World.drewN_drewN _ _ _) (congrArg (World.drewN _) (Nat.add_assoc _ _ _))⟩))); try go_wp2_with (first | (go_at_call 129; (try simp only [show ∀ n_ : Int, IntKind.i64.wrap n_ = wrap64 n_ from fun n_ => IntKind.wrap_i64 n_]); (with_reducible refine (where_corner.calls a0 a1 a2 t139 t140 true _ A5.out).mono ?_); rintro e w' ⟨rfl, ⟨nd, rfl⟩⟩; (try first | exact ⟨rfl, _, World.drewN_drewN _ _ _⟩ | exact ⟨rfl, _, Eq.trans (World.drewN_drewN _ _ _) (congrArg (World.drewN _) (Nat.add_assoc _ _ _))⟩)) | (go_at_call 100; (try simp only [show ∀ n_ : Int, IntKind.i64.wrap n_ = wrap64 n_ from fun n_ => IntKind.wrap_i64 n_]); (with_reducible refine (where_Size.calls a0 a1 a2 t142 t143 _ A6.out).mono ?_); rintro e w14 ⟨rfl, hb⟩; have n0_ := Aside0.mk (below_step (by repeat (first | (with_reducible first | exact HB.out | apply below_alloc | apply pw_below_drewN | apply below_drew1) | exact HB.out)) hb); clear HB; have HB := n0_; clear n0_; (try clear hb); (try clear hb2); (try clear hk); (try clear hi)) | (go_at_call 112; (try simp only [show ∀ n_ : Int, IntKind.i64.wrap n_ = wrap64 n_ from fun n_ => IntKind.wrap_i64 n_]); (with_reducible refine (where_Cell.calls a0 a1 (wrap64 (t139 + (Int.tmod a3 t142))) (wrap64 (t140 + (wrap64 (Int.tdiv a3 t142)))) t144 _ A13.out).mono ?_); rintro e w' ⟨rfl, ⟨nd, rfl⟩⟩; (try first | exact ⟨rfl, _, World.drewN_drewN _ _ _⟩ | exact ⟨rfl, _, Eq.trans (World.drewN_drewN _ _ _) (congrArg (World.drewN _) (Nat.add_assoc _ _ _))⟩))))
     go_ret
     exact ⟨by first | rfl | (simp [errW_none, errW_some] <;> rfl) | (simp [*, errW_none, errW_some] <;> rfl), by repeat (first | (with_reducible first | exact HB.out | apply below_alloc | apply pw_below_drewN | apply below_drew1) | exact HB.out)⟩
 ·replace c7 := Bool.eq_false_iff.mpr c7
  subst c7
  have H1 : (some (-1)) = some r := by rw [if_neg (show ¬ (false = true) by decide)] at H; exact H
  clear H
  have H := H1
  clear H1
  obtain rfl := Option.some.inj H
  go_enter Tryz.func101, Tryz.ntmps101
  go_wp2_with (first | (go_at_call 129; (try simp only [show ∀ n_ : Int, IntKind.i64.wrap n_ = wrap64 n_ from fun n_ => IntKind.wrap_i64 n_]); (with_reducible refine (where_corner.calls a0 a1 a2 t139 t140 false _ A5.out).mono ?_); rintro e w' ⟨rfl, ⟨nd, rfl⟩⟩; (try first | exact ⟨rfl, _, World.drewN_drewN _ _ _⟩ | exact ⟨rfl, _, Eq.trans (World.drewN_drewN _ _ _) (congrArg (World.drewN _) (Nat.add_assoc _ _ _))⟩)) | (go_at_call 100; (try simp only [show ∀ n_ : Int, IntKind.i64.wrap n_ = wrap64 n_ from fun n_ => IntKind.wrap_i64 n_]); (with_reducible refine (where_Size.calls a0 a1 a2 t142 t143 _ A6.out).mono ?_); rintro e w15 ⟨rfl, hb⟩; have n0_ := Aside0.mk (below_step (by repeat (first | (with_reducible first | exact HB.out | apply below_alloc | apply pw_below_drewN | apply below_drew1) | exact HB.out)) hb); clear HB; have HB := n0_; clear n0_; (try clear hb); (try clear hb2); (try clear hk); (try clear hi)))
  repeat (go_quiet (first | (go_at_call 129; (try simp only [show ∀ n_ : Int, IntKind.i64.wrap n_ = wrap64 n_ from fun n_ => IntKind.wrap_i64 n_]); (with_reducible refine (where_corner.calls a0 a1 a2 t139 t140 false _ A5.out).mono ?_); rintro e w' ⟨rfl, ⟨nd, rfl⟩⟩; (try first | exact ⟨rfl, _, World.drewN_drewN _ _ _⟩ | exact ⟨rfl, _, Eq.trans (World.drewN_drewN _ _ _) (congrArg (World.drewN _) (Nat.add_assoc _ _ _))⟩)) | (go_at_call 100; (try simp only [show ∀ n_ : Int, IntKind.i64.wrap n_ = wrap64 n_ from fun n_ => IntKind.wrap_i64 n_]); (with_reducible refine (where_Size.calls a0 a1 a2 t142 t143 _ A6.out).mono ?_); rintro e w15 ⟨rfl, hb⟩; have n0_ := Aside0.mk (below_step (by repeat (first | (with_reducible first | exact HB.out | apply below_alloc | apply pw_below_drewN | apply below_drew1) | exact HB.out)) hb); clear HB; have HB := n0_; clear n0_; (try clear hb); (try clear hb2); (try clear hk); (try clear hi))); try go_wp2_with (first | (go_at_call 129; (try simp only [show ∀ n_ : Int, IntKind.i64.wrap n_ = wrap64 n_ from fun n_ => IntKind.wrap_i64 n_]); (with_reducible refine (where_corner.calls a0 a1 a2 t139 t140 false _ A5.out).mono ?_); rintro e w' ⟨rfl, ⟨nd, rfl⟩⟩; (try first | exact ⟨rfl, _, World.drewN_drewN _ _ _⟩ | exact ⟨rfl, _, Eq.trans (World.drewN_drewN _ _ _) (congrArg (World.drewN _) (Nat.add_assoc _ _ _))⟩)) | (go_at_call 100; (try simp only [show ∀ n_ : Int, IntKind.i64.wrap n_ = wrap64 n_ from fun n_ => IntKind.wrap_i64 n_]); (with_reducible refine (where_Size.calls a0 a1 a2 t142 t143 _ A6.out).mono ?_); rintro e w15 ⟨rfl, hb⟩; have n0_ := Aside0.mk (below_step (by repeat (first | (with_reducible first | exact HB.out | apply below_alloc | apply pw_below_drewN | apply below_drew1) | exact HB.out)) hb); clear HB; have HB := n0_; clear n0_; (try clear hb); (try clear hb2); (try clear hk); (try clear hi))))
  go_ret
  exact ⟨by first | rfl | (simp [errW_none, errW_some] <;> rfl) | (simp [*, errW_none, errW_some] <;> rfl), by repeat (first | (with_reducible first | exact HB.out | apply below_alloc | apply pw_below_drewN | apply below_drew1) | exact HB.out)⟩
end Go.Proofs.YthgehdembghdaaaGreat.P
