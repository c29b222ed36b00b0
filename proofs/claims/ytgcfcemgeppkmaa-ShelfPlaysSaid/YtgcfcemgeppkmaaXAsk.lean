/-
  A call of law19 (Ask): what it lies as in memory. Rows: a slice of calls that came in, opened. PLAIN: the tile that a call names; as long as a version stands for one tile, what is told is the field.
-/
import Derived.Test.YtgcfcemgeppkmaaXRow8
import Derived.Test.YtgcfcemgeppkmaaXShelfTold
import Derived.Test.YtgcfcemgeppkmaaPx6
import Derived.Test.YtgcfcemgeppkmaaXNear
namespace Go.Proofs.Ytgcfcemgeppkmaa.P
open Go Go.Deep Go.RowKit Go.ChangeShapes Go.WideShapes Go.Proofs.YtgcfcemgeppkmaaW.PrintWords Go.Proofs.YtgcfcemgeppkmaaW.PrintLast Go.Proofs.YtgcfcemgeppkmaaW.PrintMore
set_option linter.unusedVariables false
set_option linter.unusedSimpArgs false
/-! #### struct type 72 -/
structure S72 where
  f0 : Int
  f1 : Int
  f2 : Int
  f3 : Int
  f4 : (List Int)
def z72 : S72 := ⟨(0 : Int), (0 : Int), (0 : Int), (0 : Int), ([] : List Int)⟩
def k72 : Kd S72 := Kd.iso (Kd.pair (Kd.int .i64) (Kd.pair (Kd.int .i64) (Kd.pair (Kd.int .i64) (Kd.pair (Kd.int .i64) (Kd.slice 3 (Kd.int .i64)))))) (fun x : S72 => (x.f0, x.f1, x.f2, x.f3, x.f4))
theorem k72_open {w : World} {x : S72} {cs : List Value} (h : k72.K w x cs) : ∃ A4 c4, cs = [.int .i64 x.f0, .int .i64 x.f1, .int .i64 x.f2, .int .i64 x.f3, .slice A4 x.f4.length c4] ∧ x.f4.length ≤ c4 ∧ (Kd.int .i64).C w A4 x.f4.length x.f4 := by
  obtain ⟨_, _, rfl, rfl, ⟨_, _, rfl, rfl, ⟨_, _, rfl, rfl, ⟨_, _, rfl, rfl, ⟨A4, c4, rfl, l4, g4⟩⟩⟩⟩⟩ := h
  exact ⟨A4, c4, rfl, l4, g4⟩
theorem k72_mk (w : World) (x : S72) {A4 : Option Addr} {c4 : Nat} (l4 : x.f4.length ≤ c4) (g4 : (Kd.int .i64).C w A4 x.f4.length x.f4) : k72.K w x [.int .i64 x.f0, .int .i64 x.f1, .int .i64 x.f2, .int .i64 x.f3, .slice A4 x.f4.length c4] := ⟨[.int .i64 x.f0], [.int .i64 x.f1, .int .i64 x.f2, .int .i64 x.f3, .slice A4 x.f4.length c4], rfl, rfl, ⟨[.int .i64 x.f1], [.int .i64 x.f2, .int .i64 x.f3, .slice A4 x.f4.length c4], rfl, rfl, ⟨[.int .i64 x.f2], [.int .i64 x.f3, .slice A4 x.f4.length c4], rfl, rfl, ⟨[.int .i64 x.f3], [.slice A4 x.f4.length c4], rfl, rfl, ⟨A4, c4, rfl, l4, g4⟩⟩⟩⟩⟩
def rd_T72 (xs : List S72) (i : Int) : S72 := xs.getD i.toNat z72
theorem at_T72 {w : World} {A : Option Addr} {n : Nat} {xs : List S72} (h : Kd.C k72 w A n xs) (i : Int) (h0 : 0 ≤ i) (h1 : i < n) : ∃ ad A4 c4, A = some ad ∧ w.cell? (ad.add (i.toNat * 5)) = some (.int .i64 (rd_T72 xs i).f0) ∧ w.cell? ⟨(ad.add (i.toNat * 5)).block, (ad.add (i.toNat * 5)).off + 1, none⟩ = some (.int .i64 (rd_T72 xs i).f1) ∧ w.cell? ⟨(ad.add (i.toNat * 5)).block, (ad.add (i.toNat * 5)).off + 2, none⟩ = some (.int .i64 (rd_T72 xs i).f2) ∧ w.cell? ⟨(ad.add (i.toNat * 5)).block, (ad.add (i.toNat * 5)).off + 3, none⟩ = some (.int .i64 (rd_T72 xs i).f3) ∧ w.cell? ⟨(ad.add (i.toNat * 5)).block, (ad.add (i.toNat * 5)).off + 4, none⟩ = some (.slice A4 (rd_T72 xs i).f4.length c4) ∧ (rd_T72 xs i).f4.length ≤ c4 ∧ (Kd.int .i64).C w A4 (rd_T72 xs i).f4.length (rd_T72 xs i).f4 := by
  obtain ⟨ad, c, e, _, hK, hc0⟩ := Kd.C_get h z72 i h0 h1
  have hc : ∀ j u, c[j]? = some u → w.cell? (ad.add (i.toNat * 5 + j)) = some u := hc0
  obtain ⟨A4, c4, rfl, l4, g4⟩ := k72_open hK
  exact ⟨ad, A4, c4, e, hc 0 _ rfl, by rw [← add_field _ _ 1 (by omega)]; exact hc 1 _ rfl, by rw [← add_field _ _ 2 (by omega)]; exact hc 2 _ rfl, by rw [← add_field _ _ 3 (by omega)]; exact hc 3 _ rfl, by rw [← add_field _ _ 4 (by omega)]; exact hc 4 _ rfl, l4, g4⟩
abbrev Ask := S72
abbrev kAsk : Kd Ask := k72
def Ask.ok (x : Ask) : Prop := (Lit.int .i64 x.f0).wf = true ∧ (Lit.int .i64 x.f1).wf = true ∧ (Lit.int .i64 x.f2).wf = true ∧ (Lit.int .i64 x.f3).wf = true ∧ x.f4.length ≤ maxLen ∧ ∀ y ∈ x.f4, (Lit.int .i64 y).wf = true
theorem trod_struct5 {H : Type} {enc : TypeId × Value → H} {P : Program} {w : World} {base : Nat} {spare : Nat → Bool} {held : Bool} {t : TypeId} {f0 f1 f2 f3 f4 : Field} {fuel : Nat} {cs : List Value} {x : DataW H × List MemPlace} (ht : P.underlying t = some (.struct #[f0, f1, f2, f3, f4])) (h : DataW.trod enc P w base spare held fuel t cs = some x) :
    ∃ y0 y1 y2 y3 y4 n, x = (.agg [y0.1, y1.1, y2.1, y3.1, y4.1], y0.2 ++ (y1.2 ++ (y2.2 ++ (y3.2 ++ y4.2)))) ∧ cs.length = P.cellsOf t ∧ DataW.trod enc P w base spare held n f0.type ((cs.drop f0.offset).take (P.cellsOf f0.type)) = some y0 ∧
      DataW.trod enc P w base spare held n f1.type ((cs.drop f1.offset).take (P.cellsOf f1.type)) = some y1 ∧ DataW.trod enc P w base spare held n f2.type ((cs.drop f2.offset).take (P.cellsOf f2.type)) = some y2 ∧
      DataW.trod enc P w base spare held n f3.type ((cs.drop f3.offset).take (P.cellsOf f3.type)) = some y3 ∧ DataW.trod enc P w base spare held n f4.type ((cs.drop f4.offset).take (P.cellsOf f4.type)) = some y4 := by
  obtain ⟨xs, n, _, rfl, hl, hlen, hf⟩ := DataW.trod_struct ht h
  match xs, hlen with
  | [y0, y1, y2, y3, y4], _ => exact ⟨y0, y1, y2, y3, y4, n, by simp, hl, by simpa using hf 0 f0 rfl, by simpa using hf 1 f1 rfl, by simpa using hf 2 f2 rfl, by simpa using hf 3 f3 rfl, by simpa using hf 4 f4 rfl⟩
/-- What a slice of calls reads as. -/
theorem open_asks {H : Type} {enc : TypeId × Value → H} {w : World} {base : Nat} {held : Bool} {a : Option Addr} {len cap : Nat} {d : DataW H} {ps : List MemPlace}
    (h : DataW.Trod enc Try.prog w base (fun _ => true) held 68 (.slice a len cap) d ps) : ∃ xs : List Ask, xs.length = len ∧ Kd.C kAsk w a xs.length xs ∧ xs.length ≤ cap ∧ xs.length ≤ maxLen ∧ ∀ x, x ∈ xs → x.ok := by
  obtain ⟨fuel, hf⟩ := h
  have hu := Try.underlying68
  rcases open_slice hu hf with ⟨hcs, _⟩ | ⟨ad, l, c, m, n, D, Pl, hcs, hb, hl, hm, hmm, hx, hi⟩
  · simp [Value.cells] at hcs
    obtain ⟨rfl, rfl, rfl⟩ := hcs
    exact ⟨[], rfl, Kd.C_nil _ _, Nat.le_refl _, by simp, fun x hx => by simp at hx⟩
  · simp [Value.cells] at hcs
    obtain ⟨rfl, rfl, rfl⟩ := hcs
    have hlm : len ≤ m := by rw [hmm]; split <;> omega
    have c5 : Try.prog.cellsOf 72 = 5 := by kernel_rfl
    have c1 : Try.prog.cellsOf 3 = 1 := by kernel_rfl
    have c1' : Try.prog.cellsOf 36 = 1 := by kernel_rfl
    have each : ∀ i, i < len → ∃ x : Ask, x.ok ∧ ∃ A4 c4, x.f4.length ≤ c4 ∧ Kd.C (Kd.int .i64) w A4 x.f4.length x.f4 ∧ ∀ j u, ([.int .i64 x.f0, .int .i64 x.f1, .int .i64 x.f2, .int .i64 x.f3, .slice A4 x.f4.length c4] : List Value)[j]? = some u → w.cell? (ad.add (i * 5 + j)) = some u := by
      intro i hil
      obtain ⟨cs', hc, ht'⟩ := hi i (by omega)
      rw [c5] at hc
      obtain ⟨_, hcl, hat⟩ := World.cells?_some hc
      obtain ⟨v0, v1, v2, v3, v4, rfl⟩ : ∃ v0 v1 v2 v3 v4, cs' = [v0, v1, v2, v3, v4] := by
        match cs', hcl with
        | [v0, v1, v2, v3, v4], _ => exact ⟨v0, v1, v2, v3, v4, rfl⟩
      obtain ⟨y0, y1, y2, y3, y4, n', _, _, h0, h1, h2, h3, h4⟩ := trod_struct5 Try.underlying72 ht'
      rw [c1] at h0 h1 h2 h3
      rw [c1'] at h4
      obtain ⟨i0, e0, _, w0⟩ := DataW.trod_int Try.underlying3 (show DataW.trod enc Try.prog w base (fun _ => true) held n' 3 [v0] = some y0 from h0)
      obtain ⟨i1, e1, _, w1⟩ := DataW.trod_int Try.underlying3 (show DataW.trod enc Try.prog w base (fun _ => true) held n' 3 [v1] = some y1 from h1)
      obtain ⟨i2, e2, _, w2⟩ := DataW.trod_int Try.underlying3 (show DataW.trod enc Try.prog w base (fun _ => true) held n' 3 [v2] = some y2 from h2)
      obtain ⟨i3, e3, _, w3⟩ := DataW.trod_int Try.underlying3 (show DataW.trod enc Try.prog w base (fun _ => true) held n' 3 [v3] = some y3 from h3)
      obtain ⟨A4, c4, l4, e4, hr4, hl4, hm4, hw4⟩ := open_nums Try.underlying36 Try.underlying3 (by kernel_rfl) (show DataW.trod enc Try.prog w base (fun _ => true) held n' 36 [v4] = some y4 from h4)
      obtain rfl : v0 = .int .i64 i0 := by simpa using e0
      obtain rfl : v1 = .int .i64 i1 := by simpa using e1
      obtain rfl : v2 = .int .i64 i2 := by simpa using e2
      obtain rfl : v3 = .int .i64 i3 := by simpa using e3
      obtain rfl : v4 = .slice A4 l4.length c4 := by simpa using e4
      refine ⟨⟨i0, i1, i2, i3, l4⟩, ⟨w0, w1, w2, w3, hm4, hw4⟩, A4, c4, hl4, hr4, fun j u hj => ?_⟩
      have hj5 : j < 5 := by
        have := (List.getElem?_eq_some_iff.1 hj).1
        simpa using this
      have := hat j hj5
      rw [← Go.Deep.add_add, this]
      exact hj
    let f : Nat → Ask := fun i => if h : i < len then Classical.choose (each i h) else z72
    have hfs : ∀ i, i < len → (f i).ok ∧ ∃ A4 c4, (f i).f4.length ≤ c4 ∧ Kd.C (Kd.int .i64) w A4 (f i).f4.length (f i).f4 ∧ ∀ j u, ([.int .i64 (f i).f0, .int .i64 (f i).f1, .int .i64 (f i).f2, .int .i64 (f i).f3, .slice A4 (f i).f4.length c4] : List Value)[j]? = some u → w.cell? (ad.add (i * 5 + j)) = some u := by
      intro i hil
      have := Classical.choose_spec (each i hil)
      simp only [f, dif_pos hil]
      exact this
    have hlen : ((List.range len).map f).length = len := by simp
    refine ⟨(List.range len).map f, hlen, ?_, by rw [hlen]; exact hl, by rw [hlen]; omega, fun x hx => ?_⟩
    · rw [hlen]
      refine ⟨by simp, by unfold maxLen at hm; omega, fun h0 => ⟨ad, rfl, fun i p hp => ?_⟩⟩
      obtain ⟨hil, rfl⟩ : i < len ∧ f i = p := by
        have h1 := (List.getElem?_eq_some_iff.1 hp).1
        rw [hlen] at h1
        rw [List.getElem?_map, List.getElem?_range h1] at hp
        exact ⟨h1, by simpa using hp⟩
      obtain ⟨_, A4, c4, g1, g2, g3⟩ := hfs i hil
      exact ⟨_, rfl, k72_mk w (f i) g1 g2, fun j u hj => g3 j u hj⟩
    · obtain ⟨i, hi', rfl⟩ := List.mem_map.1 hx
      exact (hfs i (List.mem_range.1 hi')).1
end Go.Proofs.Ytgcfcemgeppkmaa.P
namespace Go.Proofs.Ytgcfcemgeppkmaa.P
open Go.Proofs.Ytgcfcemgeppkmaa.Ord Go.Proofs.Ytgcfcemgeppkmaa.Dist
set_option linter.unusedVariables false
theorem sameField_own (a b : List Int) (ha : a.length ≤ 100000) (hb : b.length ≤ 100000) (k : Nat) (hk : a.length + b.length + 10 < k) : herdsmanref7_SameField.f k a b a b = some true := by
  unfold herdsmanref7_SameField.f
  rw [ints_self _ (by omega) k (by omega), Option.bind_some, if_pos rfl, ints_self _ (by omega) k (by omega), Option.bind_some]
/-- What is kept is right, as long as a version stands for one tile. -/
def RightI (tile : Int → Int → Int → Int → List Int → Prop) (n : Nat) (ks : Nat → Int × Int) (kps : List Kept) : Prop :=
  ∀ j, j < n → ∀ W H C, tile (ks j).2 (kps.getD j default).ver W H C → (kps.getD j default).dist = distOf W C (kps.getD j default).seeds ∧ (kps.getD j default).dirs = dirsOf W H C (kps.getD j default).seeds
/-- So many at most were counted. -/
def Cnt.upto (c : Cnt) (i : Nat) : Prop := c.re = 0 ∧ c.se = 0 ∧ (0 ≤ c.bu ∧ c.bu ≤ i) ∧ (0 ≤ c.hi ∧ c.hi ≤ i) ∧ (0 ≤ c.st ∧ c.st ≤ i) ∧ (0 ≤ c.ev ∧ c.ev ≤ i)
theorem Cnt.upto_ok {c : Cnt} {i : Nat} (h : c.upto i) (hi : i ≤ 1000000) : c.ok := by
  unfold Cnt.upto at h
  unfold Cnt.ok
  omega
theorem GotS.counts {n : Nat} {k : Int} {ks : Nat → Int × Int} {ord : List Nat} {kps : List Kept} {c : Cnt} {a b ver : Int} {s : List Seed} {Dst Drs : List Int} {n' : Nat} {ks' : Nat → Int × Int} {ord' : List Nat} {kps' : List Kept} {c' : Cnt} {dist dirs : List Int} {slot : Nat} {had out : Bool} (h : GotS n k ks ord kps c a b ver s Dst Drs n' ks' ord' kps' c' dist dirs slot had out) {i : Nat} (hc : c.upto i) : c'.upto (i + 1) ∧ n' ≤ n + 1 := by
  refine ⟨?_, ?_⟩
  · by_cases hh : had = true ∧ (kps.getD slot default).ver = ver ∧ (kps.getD slot default).seeds = s
    · obtain ⟨_, _, _, e⟩ := h.hit hh.1 hh.2.1 hh.2.2
      subst e
      unfold Cnt.upto at hc ⊢
      simp only
      omega
    · obtain ⟨_, _, _, _, e⟩ := h.build hh
      subst e
      unfold Cnt.upto at hc ⊢
      simp only
      refine ⟨hc.1, hc.2.1, ?_, ?_, ?_, ?_⟩
      · omega
      · omega
      · split <;> omega
      · split <;> omega
  · cases had with
    | true => have := (h.used.hit rfl).2.2.2.1; omega
    | false =>
      by_cases hk : (n : Int) < k
      · have := (h.used.fresh rfl hk).2.2.1; omega
      · have := (h.used.evict rfl hk).2.2.2.1; omega
theorem GotS.right {tile : Int → Int → Int → Int → List Int → Prop} {n : Nat} {k : Int} {ks : Nat → Int × Int} {ord : List Nat} {kps : List Kept} {c : Cnt} {a b ver : Int} {s : List Seed} {n' : Nat} {ks' : Nat → Int × Int} {ord' : List Nat} {kps' : List Kept} {c' : Cnt} {dist dirs : List Int} {slot : Nat} {had out : Bool} {W H : Int} {C : List Int} (h : GotS n k ks ord kps c a b ver s (distOf W C s) (dirsOf W H C s) n' ks' ord' kps' c' dist dirs slot had out) (hone : ∀ W' H' C', tile b ver W' H' C' → W' = W ∧ H' = H ∧ C' = C) (ht : tile b ver W H C) (hr : RightI tile n ks kps) :
    dist = distOf W C s ∧ dirs = dirsOf W H C s ∧ RightI tile n' ks' kps' := by
  by_cases hh : had = true ∧ (kps.getD slot default).ver = ver ∧ (kps.getD slot default).seeds = s
  · obtain ⟨e1, e2, e3, _⟩ := h.hit hh.1 hh.2.1 hh.2.2
    obtain ⟨u1, u2, _, u4, u5, _⟩ := h.used.hit hh.1
    have hq := hr slot u1 W H C (by rw [u2, hh.2.1]; exact ht)
    rw [hh.2.2] at hq
    refine ⟨e1.trans hq.1, e2.trans hq.2, fun j hj => ?_⟩
    rw [u4] at hj
    rw [u5, e3 j hj]
    exact hr j hj
  · obtain ⟨e1, e2, e3, e4, _⟩ := h.build hh
    refine ⟨e1, e2, fun j hj W' H' C' hT => ?_⟩
    have hs : ks' slot = (a, b) := by
      cases had with
      | true => obtain ⟨_, u2, _, _, u5, _⟩ := h.used.hit rfl; rw [u5]; exact u2
      | false => rw [(h.used.miss rfl).2, if_pos rfl]
    by_cases e : j = slot
    · subst e
      rw [e3] at hT ⊢
      rw [hs] at hT
      obtain ⟨rfl, rfl, rfl⟩ := hone _ _ _ hT
      exact ⟨rfl, rfl⟩
    · have hjn : j < n ∧ ks' j = ks j := by
        cases had with
        | true => obtain ⟨_, _, _, u4, u5, _⟩ := h.used.hit rfl; exact ⟨by omega, by rw [u5]⟩
        | false =>
          have hm := (h.used.miss rfl).2 j
          rw [if_neg e] at hm
          refine ⟨?_, hm⟩
          by_cases hk : (n : Int) < k
          · have := h.used.fresh rfl hk; omega
          · have := h.used.evict rfl hk; omega
      rw [e4 j hjn.1 e] at hT ⊢
      rw [hjn.2] at hT
      exact hr j hjn.1 W' H' C' hT
end Go.Proofs.Ytgcfcemgeppkmaa.P
