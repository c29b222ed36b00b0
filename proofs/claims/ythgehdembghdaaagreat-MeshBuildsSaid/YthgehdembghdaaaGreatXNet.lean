/-
 A grid, and a mesh over it, as they lie in memory.
-/
import Derived.Test.YthgehdembghdaaaGreatXGeo
import Derived.Test.YthgehdembghdaaaGreatXSort
import Derived.Test.YthgehdembghdaaaGreatXMay
namespace Go.Proofs.YthgehdembghdaaaGreat.P
open Go.RowKit Go.Proofs.YthgehdembghdaaaGreatW.PrintWords Go.Proofs.YthgehdembghdaaaGreatW.PrintLast Go.Proofs.YthgehdembghdaaaGreatW.PrintMore
open Go.Proofs.YthgehdembghdaaaGreat.Geo
set_option linter.unusedVariables false
set_option linter.unusedSimpArgs false
theorem cfarN {w : World} {p a : Addr} (h : a.block ≠ p.block) (v : Value) : (w.setCell p v).cell? a = w.cell? a := World.cell?_setCell_other _ _ _ _ (fun e => h (by rw [e]))
theorem Chg.odd {α : Type} {d : Kd α} {S : Nat → Prop} {w w' : World} {e base : Nat} {ok : Nat → Prop} {v : Value} {xs : List α} (hc : Chg S w w') (hE : d.E = []) (h : d.R e w base ok v xs) (hn : ∀ k, S k → ∀ cs, w.heap[k]? ≠ some (.cells cs e (0, 0))) : d.R e w' base ok v xs := by
 refine Kd.R_mono (hc.R (Kd.R_bound h) (fun k hk hs => ?_)) (fun _ hk => hk.1)
 obtain ⟨_, _, _, q, hq, cs, hcs⟩ := hk
 rw [hE, List.mem_singleton] at hq
 subst hq
 exact hn k hs cs hcs
theorem typ_ne {w : World} {g : Nat} {cs cs' : Array Value} {t e : TypeId} (hb : w.heap[g]? = some (.cells cs t (0, 0))) (ht : t ≠ e) : w.heap[g]? ≠ some (.cells cs' e (0, 0)) := by
 rw [hb]
 intro q
 injection q with q
 injection q with _ q _
 exact ht q
structure GridS where
 W : Int
 H : Int
 C : List Int
 ep : Int
 V : List Int
structure Gb where
 gb : Nat
 mb : Nat
 vb : Nat
 cm : Nat
 cv : Nat
def Gb.own (g : Gb) (b : Nat) : Prop := b = g.gb ∨ b = g.mb ∨ b = g.vb
def gCells (g : Gb) (s : GridS) : Array Value := #[.int .i64 s.W, .int .i64 s.H, .slice (some ⟨g.mb, 0, none⟩) s.C.length g.cm, .int .i64 s.ep, .slice (some ⟨g.vb, 0, none⟩) s.V.length g.cv]
structure GridM (w : World) (g : Gb) (s : GridS) : Prop where
 blk : w.heap[g.gb]? = some (.cells (gCells g s) 104 (0, 0))
 map : Kd.R (Kd.int .u8) 5 w 0 (fun b => b = g.mb) (.slice (some ⟨g.mb, 0, none⟩) s.C.length g.cm) s.C
 vers : Kd.R (Kd.int .i64) 2 w 0 (fun b => b = g.vb) (.slice (some ⟨g.vb, 0, none⟩) s.V.length g.cv) s.V
 ok : MapOk s.W s.H s.C
 vlen : (s.V.length : Int) = cnt s.W s.H
 ep : 0 ≤ s.ep ∧ s.ep ≤ 1000000000
variable {w w' : World} {g : Gb} {s : GridS} {S : Nat → Prop}
theorem GridM.chg (h : GridM w g s) (hc : Chg S w w') (hn : ∀ b, g.own b → ¬ S b) : GridM w' g s where
 blk := hc.blk h.blk (hn _ (.inl rfl))
 map := hc.R h.map (fun k hk => hn k (.inr (.inl hk)))
 vers := hc.R h.vers (fun k hk => hn k (.inr (.inr hk)))
 ok := h.ok
 vlen := h.vlen
 ep := h.ep
theorem GridM.below (h : GridM w g s) (hb : Below w.heap.size w w') : GridM w' g s := h.chg (Chg.of_below hb (fun _ => False)) (fun _ _ q => q)
theorem GridM.typM (h : GridM w g s) : ∃ cs, w.heap[g.mb]? = some (.cells cs 5 (0, 0)) := Kd.R_typed h.map _ rfl
theorem GridM.typV (h : GridM w g s) : ∃ cs, w.heap[g.vb]? = some (.cells cs 2 (0, 0)) := Kd.R_typed h.vers _ rfl
theorem GridM.ne (h : GridM w g s) : g.gb ≠ g.mb ∧ g.gb ≠ g.vb ∧ g.mb ≠ g.vb := by
 obtain ⟨c1, h1⟩ := h.typM
 obtain ⟨c2, h2⟩ := h.typV
 exact ⟨blk_ne h.blk h1 (by decide), blk_ne h.blk h2 (by decide), blk_ne h1 h2 (by decide)⟩
theorem GridM.odd (h : GridM w g s) {e : TypeId} (h1 : 104 ≠ e) (h2 : 5 ≠ e) (h3 : 2 ≠ e) : ∀ k, g.own k → ∀ cs, w.heap[k]? ≠ some (.cells cs e (0, 0)) := by
 obtain ⟨c1, p1⟩ := h.typM
 obtain ⟨c2, p2⟩ := h.typV
 rintro k (rfl | rfl | rfl) cs
 ·exact typ_ne h.blk h1
 ·exact typ_ne p1 h2
 ·exact typ_ne p2 h3
theorem GridM.clen (h : GridM w g s) : s.C.length ≤ 1048576 ∧ (s.C.length : Int) = s.W * s.H := by
 have := wh_le h.ok.dim
 have := h.ok.len
 omega
theorem GridM.cost (h : GridM w g s) {c : Nat} (hc : c < s.C.length) : w.cell? ⟨g.mb, c, none⟩ = some (.int .u8 (rd s.C (c : Int))) ∧ w.frozen? ⟨g.mb, c, none⟩ = false := by
 have := Kd.R_celln 0 h.map (c : Int) (by omega) (by omega)
 rw [Int.toNat_natCast] at this
 exact this
theorem GridM.ver (h : GridM w g s) {i : Nat} (hi : i < s.V.length) : w.cell? ⟨g.vb, i, none⟩ = some (.int .i64 (rd s.V (i : Int))) ∧ w.frozen? ⟨g.vb, i, none⟩ = false := by
 have := Kd.R_celln 0 h.vers (i : Int) (by omega) (by omega)
 rw [Int.toNat_natCast] at this
 exact this
theorem mem_set {l : List Int} {i : Nat} {x y : Int} (h : y ∈ l.set i x) : y ∈ l ∨ y = x := List.mem_or_eq_of_mem_set h
theorem GridM.edit (h : GridM w g s) {c i : Nat} {x : Int} (hx : 1 ≤ x ∧ x ≤ 255) (he : s.ep + 1 ≤ 1000000000) : GridM (((w.setCell ⟨g.mb, c, none⟩ (.int .u8 x)).setCell ⟨g.gb, 3, none⟩ (.int .i64 (s.ep + 1))).setCell ⟨g.vb, i, none⟩ (.int .i64 (s.ep + 1))) g { s with C := s.C.set c x, ep := s.ep + 1, V := s.V.set i (s.ep + 1) } := by
 obtain ⟨n1, n2, n3⟩ := h.ne
 have hm := Kd.R_putn h.map (c : Int) x
 have hv := Kd.R_putn (Kd.R_far (Kd.R_far h.vers (p := ⟨g.mb, c, none⟩) (fun k hk => by subst hk; exact n3.symm) (.int .u8 x)) (p := ⟨g.gb, 3, none⟩) (fun k hk => by subst hk; exact n2.symm) (.int .i64 (s.ep + 1))) (i : Int) (s.ep + 1)
 rw [Int.toNat_natCast] at hm hv
 have hb := set_blk (blk_far h.blk (p := ⟨g.mb, c, none⟩) n1 (.int .u8 x)) 3 (.int .i64 (s.ep + 1))
 refine ⟨?_, ?_, ?_, ⟨h.ok.dim, by rw [List.length_set]; exact h.ok.len, fun y hy => ?_⟩, by rw [List.length_set]; exact h.vlen, ?_⟩
 ·have := blk_far hb (p := ⟨g.vb, i, none⟩) n2 (.int .i64 (s.ep + 1))
  rw [this]
  unfold gCells
  rw [List.length_set, List.length_set]
  rfl
 ·rw [List.length_set]
  exact Kd.R_far (Kd.R_far hm (p := ⟨g.gb, 3, none⟩) (fun k hk => by subst hk; exact n1.symm) _) (p := ⟨g.vb, i, none⟩) (fun k hk => by subst hk; exact n3) _
 ·rw [List.length_set]
  exact hv
 ·rcases mem_set hy with q | rfl
  ·exact h.ok.cost y q
  ·exact hx
 ·have := h.ep
  exact ⟨by show 0 ≤ s.ep + 1; omega, he⟩
theorem edit_chg {g : Gb} (w : World) (a b c : Value) (i j : Nat) : Chg g.own w (((w.setCell ⟨g.mb, i, none⟩ a).setCell ⟨g.gb, 3, none⟩ b).setCell ⟨g.vb, j, none⟩ c) :=
 (((Chg.refl g.own w).set_ (.inl (.inr (.inl rfl))) a).set_ (.inl (.inl rfl)) b).set_ (.inl (.inr (.inr rfl))) c
structure Part where
 ver : Int
 nodes : List Int
 dist : List Int
instance : Inhabited Part := ⟨⟨0, [], []⟩⟩
structure Pv where
 ver : Int
 nv : Value
 dv : Value
instance : Inhabited Pv := ⟨⟨0, .slice none 0 0, .slice none 0 0⟩⟩
def encP (x : Pv) : List Value := [.int .i64 x.ver, x.nv, x.dv]
abbrev RowN (w : World) (base : Nat) (v : Value) (l : List Int) : Prop := Kd.R (Kd.int .i64) 3 w base (fun _ => True) v l
abbrev RowD (w : World) (base : Nat) (v : Value) (l : List Int) : Prop := Kd.R (Kd.int .i32) 21 w base (fun _ => True) v l
structure PartM (w : World) (x : Pv) (y : Part) : Prop where
 ver : x.ver = y.ver
 nodes : RowN w 0 x.nv y.nodes
 dist : RowD w 0 x.dv y.dist
 len : y.nodes.length ≤ 256 ∧ y.dist.length = y.nodes.length * y.nodes.length
theorem PartM.zero (w : World) : PartM w default default := ⟨rfl, Kd.R_nil _ _ _ _ _, Kd.R_nil _ _ _ _ _, by decide⟩
def OddN (w : World) (S : Nat → Prop) : Prop := ∀ k, S k → ∀ cs, w.heap[k]? ≠ some (.cells cs 3 (0, 0)) ∧ w.heap[k]? ≠ some (.cells cs 21 (0, 0))
theorem PartM.chg {x : Pv} {y : Part} (h : PartM w x y) (hc : Chg S w w') (hn : OddN w S) : PartM w' x y :=
 ⟨h.ver, hc.odd rfl h.nodes (fun k hk cs => (hn k hk cs).1), hc.odd rfl h.dist (fun k hk cs => (hn k hk cs).2), h.len⟩
structure Mb where
 xb : Nat
 pb : Nat
 cp : Nat
def Mb.own (m : Mb) (b : Nat) : Prop := b = m.xb ∨ b = m.pb
structure MeshS where
 ps : List Part
 clean : Int
 cnt : Int
def mCells (gb : Nat) (m : Mb) (n : Nat) (s : MeshS) : Array Value := #[.pointer (some ⟨gb, 0, none⟩), .slice (some ⟨m.pb, 0, none⟩) n m.cp, .int .i64 s.clean, .int .u64 s.cnt]
structure MeshM (w : World) (gb : Nat) (m : Mb) (x : MeshS) (pvs : List Pv) : Prop where
 blk : w.heap[m.xb]? = some (.cells (mCells gb m pvs.length x) 108 (0, 0))
 row : RowIn encP 3 111 m.pb m.cp pvs.toArray w
 cap : pvs.length ≤ m.cp ∧ m.cp ≤ maxLen
 len : x.ps.length = pvs.length
 part : ∀ i, i < pvs.length → PartM w (pvs.getD i default) (x.ps.getD i default)
 cnt : 0 ≤ x.cnt ∧ x.cnt ≤ 1000000000
variable {m : Mb} {x : MeshS} {pvs : List Pv} {gb : Nat}
theorem RowIn.typ {α : Type} [Inhabited α] {enc : α → List Value} {k e B cap : Nat} {d : Array α} {w : World} (h : RowIn enc k e B cap d w) : ∃ cs, w.heap[B]? = some (.cells cs e (0, 0)) := by
 obtain ⟨cs, h1, _⟩ := h
 exact ⟨_, h1⟩
theorem MeshM.typ (h : MeshM w gb m x pvs) : ∃ cs, w.heap[m.pb]? = some (.cells cs 111 (0, 0)) := h.row.typ
theorem MeshM.ne (h : MeshM w gb m x pvs) : m.xb ≠ m.pb := by
 obtain ⟨cs, h1⟩ := h.typ
 exact blk_ne h.blk h1 (by decide)
theorem MeshM.lt (h : MeshM w gb m x pvs) {b : Nat} (hb : m.own b) : b < w.heap.size := by
 obtain ⟨cs, h1⟩ := h.typ
 rcases hb with rfl | rfl
 ·exact blk_lt h.blk
 ·exact blk_lt h1
theorem MeshM.odd (h : MeshM w gb m x pvs) : OddN w m.own := by
 obtain ⟨cs1, h1⟩ := h.typ
 rintro k (rfl | rfl) cs
 ·exact ⟨typ_ne h.blk (by decide), typ_ne h.blk (by decide)⟩
 ·exact ⟨typ_ne h1 (by decide), typ_ne h1 (by decide)⟩
theorem GridM.oddN (h : GridM w g s) : OddN w g.own := fun k hk cs => ⟨h.odd (by decide) (by decide) (by decide) k hk cs, h.odd (by decide) (by decide) (by decide) k hk cs⟩
theorem MeshM.chg (h : MeshM w gb m x pvs) (hc : Chg S w w') (hn : ∀ b, m.own b → ¬ S b) (ho : OddN w S) : MeshM w' gb m x pvs where
 blk := hc.blk h.blk (hn _ (.inl rfl))
 row := h.row.heap (hc.block _ (h.lt (.inr rfl)) (hn _ (.inr rfl)))
 cap := h.cap
 len := h.len
 part i hi := (h.part i hi).chg hc ho
 cnt := h.cnt
structure Net (w : World) (g : Gb) (m : Mb) (s : GridS) (x : MeshS) : Prop where
 grid : GridM w g s
 mesh : ∃ pvs, MeshM w g.gb m x pvs
 len : (x.ps.length : Int) = cnt s.W s.H
def own2 (g : Gb) (m : Mb) (b : Nat) : Prop := g.own b ∨ m.own b
theorem Net.apart (h : Net w g m s x) : ∀ b, g.own b → ¬ m.own b := by
 obtain ⟨pvs, hm⟩ := h.mesh
 obtain ⟨c1, h1⟩ := h.grid.typM
 obtain ⟨c2, h2⟩ := h.grid.typV
 obtain ⟨c3, h3⟩ := hm.typ
 rintro b (rfl | rfl | rfl) (e | e)
 ·exact blk_ne h.grid.blk hm.blk (by decide) e
 ·exact blk_ne h.grid.blk h3 (by decide) e
 ·exact blk_ne h1 hm.blk (by decide) e
 ·exact blk_ne h1 h3 (by decide) e
 ·exact blk_ne h2 hm.blk (by decide) e
 ·exact blk_ne h2 h3 (by decide) e
theorem Net.chg (h : Net w g m s x) (hc : Chg S w w') (hn : ∀ b, own2 g m b → ¬ S b) (ho : OddN w S) : Net w' g m s x := by
 obtain ⟨pvs, hm⟩ := h.mesh
 exact ⟨h.grid.chg hc (fun b hb => hn b (.inl hb)), ⟨pvs, hm.chg hc (fun b hb => hn b (.inr hb)) ho⟩, h.len⟩
theorem Net.below (h : Net w g m s x) (hb : Below w.heap.size w w') : Net w' g m s x := h.chg (Chg.of_below hb (fun _ => False)) (fun _ _ q => q) (fun _ q => q.elim)
theorem Net.edit {s' : GridS} (h : Net w g m s x) (hg : GridM w' g s') (hc : Chg g.own w w') (hs : cnt s'.W s'.H = cnt s.W s.H) : Net w' g m s' x := by
 obtain ⟨pvs, hm⟩ := h.mesh
 exact ⟨hg, ⟨pvs, hm.chg hc (fun b hb q => h.apart b q hb) h.grid.oddN⟩, by rw [hs]; exact h.len⟩
end Go.Proofs.YthgehdembghdaaaGreat.P
