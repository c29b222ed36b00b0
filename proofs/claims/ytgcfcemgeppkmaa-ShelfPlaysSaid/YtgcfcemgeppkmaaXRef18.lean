/-
  herdsmanref18.Shelf in memory (its kept ones share their rows); Ask.
-/
import Derived.Test.YtgcfcemgeppkmaaXShelfTold
import Derived.Test.YtgcfcemgeppkmaaPx20
namespace Go.Proofs.Ytgcfcemgeppkmaa.P
open Go.RowKit Go.Proofs.YtgcfcemgeppkmaaW.PrintWords Go.Proofs.YtgcfcemgeppkmaaW.PrintLast Go.Proofs.YtgcfcemgeppkmaaW.PrintMore
open Go.Proofs.Ytgcfcemgeppkmaa.Ord Go.Proofs.Ytgcfcemgeppkmaa.Dist
set_option linter.unusedVariables false
set_option linter.unusedSimpArgs false
theorem rdT_getV (xs : List Seed) {i : Nat} (h : i < xs.length) : rd_T25 xs (i : Int) = xs[i] := by
  unfold rd_T25
  rw [Int.toNat_natCast, List.getD_eq_getElem?_getD, List.getElem?_eq_getElem h]
  rfl
theorem beq_notV (x y : Seed) : (!(x.f0 == y.f0) || (!(x.f1 == y.f1) || (!(x.f2 == y.f2)))) = !decide (x = y) := by
  rw [← seed_beq]
  cases x.f0 == y.f0 <;> cases x.f1 == y.f1 <;> cases x.f2 == y.f2 <;> rfl
theorem refV_l0 (a b : List Seed) (hl : a.length = b.length) (hb : a.length ≤ 1000000) : ∀ (d i k : Nat), i + d = a.length → d < k → herdsmanref7_SameSeeds.l0 k a b (i : Int) = some (decide (a.drop i = b.drop i)) := by
  intro d
  induction d with
  | zero =>
    intro i k hi hk
    obtain ⟨k, rfl⟩ : ∃ m, k = m + 1 := ⟨k - 1, by omega⟩
    rw [herdsmanref7_SameSeeds.l0, if_neg (by omega), List.drop_eq_nil_of_le (by omega), List.drop_eq_nil_of_le (by omega)]
    simp
  | succ d ih =>
    intro i k hi hk
    obtain ⟨k, rfl⟩ : ∃ m, k = m + 1 := ⟨k - 1, by omega⟩
    have h1 : i < a.length := by omega
    have h2 : i < b.length := by omega
    have hn := ih (i + 1) k (by omega) (by omega)
    rw [herdsmanref7_SameSeeds.l0, if_pos (by omega), if_pos (by omega), if_pos (by omega), rdT_getV a h1, rdT_getV b h2, beq_notV, w64 (n := (i : Int) + 1) (by omega) (by omega), List.drop_eq_getElem_cons h1, List.drop_eq_getElem_cons h2]
    by_cases e : a[i] = b[i]
    · rw [if_neg (by simp [e])]
      refine hn.trans (congrArg some (decide_eq_decide.2 ?_))
      rw [e]
      exact ⟨fun h => by rw [h], fun h => (List.cons.inj h).2⟩
    · rw [if_pos (by simp [e])]
      exact congrArg some (decide_eq_false (fun h => e (List.cons.inj h).1)).symm
theorem refSameV (a b : List Seed) (ha : a.length ≤ 1000000) (k : Nat) (hk : a.length < k) : herdsmanref7_SameSeeds.f k a b = some (decide (a = b)) := by
  unfold herdsmanref7_SameSeeds.f
  by_cases hl : a.length = b.length
  · rw [if_pos (by omega)]
    have := refV_l0 a b hl ha a.length 0 k (by omega) hk
    simpa using this
  · rw [if_neg (by omega)]
    exact congrArg some (decide_eq_false (fun h => hl (by rw [h]))).symm
/-- What the document's shelf keeps, as it lies in memory: its rows by their headers. -/
structure Rv where
  a : Int
  b : Int
  ver : Int
  sA : Option Addr
  sn : Nat
  sc : Nat
  dA : Option Addr
  dn : Nat
  dc : Nat
  rA : Option Addr
  rn : Nat
  rc : Nat
instance : Inhabited Rv := ⟨⟨0, 0, 0, none, 0, 0, none, 0, 0, none, 0, 0⟩⟩
def encR (x : Rv) : List Value := [.int .i64 x.a, .int .i64 x.b, .int .i64 x.ver, .slice x.sA x.sn x.sc, .slice x.dA x.dn x.dc, .slice x.rA x.rn x.rc]
def kRv : Kd Rv where
  sz := 6
  E := []
  K := fun _ x cs => cs = encR x
  M := fun _ _ _ x cs => cs = encR x
  K_len := fun h => by rw [h]; rfl
  K_one := fun h u hu => by
    rw [h] at hu
    simp only [encR, List.mem_cons, List.not_mem_nil, or_false] at hu
    rcases hu with rfl | rfl | rfl | rfl | rfl | rfl <;> rfl
  K_below := fun _ h => h
  K_of_M := fun h => h
  M_mono := fun _ h => h
  M_bound := fun h => h
  M_move := fun _ h => h
  M_lower := fun _ h => h
theorem infoRv : (Try.prog.info? 127).map (fun i => (i.zero, i.size, i.bytes)) = some (some (.agg #[.int .i64 0, .int .i64 0, .int .i64 0, .slice none 0 0, .slice none 0 0, .slice none 0 0]), 6, 96) := by kernel_rfl
/-- .. and as it is meant. -/
structure RP where
  a : Int
  b : Int
  ver : Int
  seeds : List Seed
  dist : List Int
  dirs : List Int
instance : Inhabited RP := ⟨⟨0, 0, 0, [], [], []⟩⟩
structure MeanR (w : World) (own : Nat → Prop) (x : Rv) (p : RP) : Prop where
  a : x.a = p.a
  b : x.b = p.b
  ver : x.ver = p.ver
  sn : x.sn = p.seeds.length ∧ x.sn ≤ x.sc ∧ x.sn ≤ 1000
  dn : x.dn = p.dist.length ∧ x.dn ≤ x.dc ∧ x.dn ≤ 1000
  rn : x.rn = p.dirs.length ∧ x.rn ≤ x.rc ∧ x.rn ≤ 1000
  seeds : Kd.C k25 w x.sA p.seeds.length p.seeds
  dist : Kd.C (Kd.int .i64) w x.dA p.dist.length p.dist
  dirs : Kd.C (Kd.int .i64) w x.rA p.dirs.length p.dirs
  so : ∀ ad, x.sA = some ad → 0 < p.seeds.length → own ad.block
  dO : ∀ ad, x.dA = some ad → 0 < p.dist.length → own ad.block
  ro : ∀ ad, x.rA = some ad → 0 < p.dirs.length → own ad.block
variable {w w' : World} {own own' S : Nat → Prop}
theorem MeanR.chg {x : Rv} {p : RP} (h : MeanR w own x p) (hc : Chg S w w') (hn : ∀ k, own k → ¬ S k) : MeanR w' own x p :=
  { h with seeds := flat_seed h.seeds hc (fun ad e h0 => hn _ (h.so ad e h0)), dist := flat_int h.dist hc (fun ad e h0 => hn _ (h.dO ad e h0)), dirs := flat_int h.dirs hc (fun ad e h0 => hn _ (h.ro ad e h0)) }
theorem MeanR.mono {x : Rv} {p : RP} (h : MeanR w own x p) (ho : ∀ k, own k → own' k) : MeanR w own' x p :=
  { h with so := fun ad e h0 => ho _ (h.so ad e h0), dO := fun ad e h0 => ho _ (h.dO ad e h0), ro := fun ad e h0 => ho _ (h.ro ad e h0) }
def rsCells (K : Int) (v : Value) (c : Cnt) : Array Value := #[.int .i64 K, v, .int .u64 c.re, .int .u64 c.se, .int .u64 c.bu, .int .u64 c.hi, .int .u64 c.st, .int .u64 c.ev]
/-- The document's shelf: a list of what is kept, with its meaning beside it. -/
structure RSh (w : World) (own : Nat → Prop) (rb : Nat) (K : Int) (v : Value) (Z : List (Rv × RP)) (c : Cnt) : Prop where
  blk : w.heap[rb]? = some (.cells (rsCells K v c) 82 (0, 0))
  row : Kd.R kRv 127 w 0 own v (Z.map (·.1))
  mean : ∀ z, z ∈ Z → MeanR w (fun k => own k ∧ k ≠ rb) z.1 z.2
  ownB : own rb
variable {rb : Nat} {K : Int} {v : Value} {Z : List (Rv × RP)} {c : Cnt}
theorem RSh.chg (h : RSh w own rb K v Z c) (hc : Chg S w w') (hn : ∀ k, own k → ¬ S k) : RSh w' own rb K v Z c :=
  ⟨hc.blk h.blk (hn _ h.ownB), hc.R h.row hn, fun z hz => (h.mean z hz).chg hc (fun k hk => hn k hk.1), h.ownB⟩
theorem RSh.below (h : RSh w own rb K v Z c) (hb : Below w.heap.size w w') : RSh w' own rb K v Z c := h.chg (Chg.of_below hb (fun _ => False)) (fun _ _ h => h)
theorem RSh.mono (h : RSh w own rb K v Z c) (ho : ∀ k, own k → own' k) : RSh w own' rb K v Z c :=
  ⟨h.blk, Kd.R_mono h.row ho, fun z hz => (h.mean z hz).mono (fun k hk => ⟨ho k hk.1, hk.2⟩), ho _ h.ownB⟩
/-- What asking has come to. -/
structure AS where
  had : Bool
  right : Bool
  rest : List (Rv × RP)
  x : Rv × RP
def askStep (a b ver : Int) (s : List Seed) (st : AS) (z : Rv × RP) : AS :=
  if z.2.a ≠ a ∨ z.2.b ≠ b then { st with rest := st.rest ++ [z] } else if z.2.ver = ver ∧ z.2.seeds = s then ⟨true, true, st.rest, z⟩ else ⟨true, false, st.rest, st.x⟩
def askF (a b ver : Int) (s : List Seed) (x : Rv × RP) (Z : List (Rv × RP)) : AS := Z.foldl (askStep a b ver s) ⟨false, false, [], x⟩
theorem askF_succ (a b ver : Int) (s : List Seed) (x : Rv × RP) (Z : List (Rv × RP)) {i : Nat} (h : i < Z.length) : askF a b ver s x (Z.take (i + 1)) = askStep a b ver s (askF a b ver s x (Z.take i)) Z[i] := by
  unfold askF
  rw [List.take_succ_eq_append_getElem h, List.foldl_append]
  rfl
theorem askF_rest (a b ver : Int) (s : List Seed) (x : Rv × RP) : ∀ (Z : List (Rv × RP)) (st : AS), (Z.foldl (askStep a b ver s) st).rest.length ≤ st.rest.length + Z.length := by
  intro Z
  induction Z with
  | nil => intro st; simp
  | cons z Z ih =>
    intro st
    have h1 := ih (askStep a b ver s st z)
    have h2 : (askStep a b ver s st z).rest.length ≤ st.rest.length + 1 := by
      unfold askStep
      split
      · simp
      · split <;> simp
    simp only [List.foldl_cons, List.length_cons]
    omega
theorem askF_mem (a b ver : Int) (s : List Seed) (x : Rv × RP) : ∀ (Z : List (Rv × RP)) (st : AS), ((Z.foldl (askStep a b ver s) st).x = st.x ∨ (Z.foldl (askStep a b ver s) st).x ∈ Z) ∧ ∀ z, z ∈ (Z.foldl (askStep a b ver s) st).rest → z ∈ st.rest ∨ z ∈ Z := by
  intro Z
  induction Z with
  | nil => intro st; exact ⟨.inl rfl, fun z hz => .inl hz⟩
  | cons y Z ih =>
    intro st
    obtain ⟨h1, h2⟩ := ih (askStep a b ver s st y)
    simp only [List.foldl_cons]
    constructor
    · rcases h1 with h1 | h1
      · rw [h1]
        unfold askStep
        split
        · exact .inl rfl
        · split
          · exact .inr List.mem_cons_self
          · exact .inl rfl
      · exact .inr (List.mem_cons_of_mem _ h1)
    · intro z hz
      rcases h2 z hz with h3 | h3
      · unfold askStep at h3
        split at h3
        · rcases List.mem_append.1 h3 with h4 | h4
          · exact .inl h4
          · rw [List.mem_singleton] at h4
            exact .inr (by rw [h4]; exact List.mem_cons_self)
        · split at h3 <;> exact .inl h3
      · exact .inr (List.mem_cons_of_mem _ h3)
def askC (K : Int) (st : AS) (c : Cnt) : Cnt := if st.right then { c with hi := c.hi + 1 } else if st.had then { c with st := c.st + 1, bu := c.bu + 1 } else if K ≤ (st.rest.length : Int) then { c with bu := c.bu + 1, ev := c.ev + 1 } else { c with bu := c.bu + 1 }
def askR (K : Int) (st : AS) : List (Rv × RP) := if st.right then st.rest else if st.had then st.rest else if K ≤ (st.rest.length : Int) then st.rest.take (K - 1).toNat else st.rest
theorem rv_at {A : Option Addr} {L : List Rv} (h : Kd.C kRv w A L.length L) {i : Nat} (hi : i < L.length) : ∃ ad, A = some ad ∧ w.cell? (ad.add (i * 6)) = some (.int .i64 L[i].a) ∧ w.cell? ⟨(ad.add (i * 6)).block, (ad.add (i * 6)).off + 1, none⟩ = some (.int .i64 L[i].b) ∧ w.cell? ⟨(ad.add (i * 6)).block, (ad.add (i * 6)).off + 2, none⟩ = some (.int .i64 L[i].ver) ∧ w.cell? ⟨(ad.add (i * 6)).block, (ad.add (i * 6)).off + 3, none⟩ = some (.slice L[i].sA L[i].sn L[i].sc) ∧ w.cell? ⟨(ad.add (i * 6)).block, (ad.add (i * 6)).off + 4, none⟩ = some (.slice L[i].dA L[i].dn L[i].dc) ∧ w.cell? ⟨(ad.add (i * 6)).block, (ad.add (i * 6)).off + 5, none⟩ = some (.slice L[i].rA L[i].rn L[i].rc) := by
  obtain ⟨ad, cs, e, _, hK, hc0⟩ := Kd.C_get h default (i : Int) (by omega) (by omega)
  have hg : L.getD (i : Int).toNat default = L[i] := by rw [Int.toNat_natCast, List.getD_eq_getElem?_getD, List.getElem?_eq_getElem hi]; rfl
  rw [hg] at hK
  have hk : cs = encR L[i] := hK
  subst hk
  have hc : ∀ j u, (encR L[i])[j]? = some u → w.cell? (ad.add (i * 6 + j)) = some u := hc0
  exact ⟨ad, e, hc 0 _ rfl, by rw [← add_field _ _ 1 (by omega)]; exact hc 1 _ rfl, by rw [← add_field _ _ 2 (by omega)]; exact hc 2 _ rfl, by rw [← add_field _ _ 3 (by omega)]; exact hc 3 _ rfl, by rw [← add_field _ _ 4 (by omega)]; exact hc 4 _ rfl, by rw [← add_field _ _ 5 (by omega)]; exact hc 5 _ rfl⟩
theorem heapAtR (w : World) (o : Obj) (k : Nat) (h : k = w.heap.size) : (w.alloc o).heap[k]? = some o := by
  subst h
  exact heap_alloc_new w o
end Go.Proofs.Ytgcfcemgeppkmaa.P
namespace Go.Proofs.Ytgcfcemgeppkmaa.P
open Go.RowKit Go.Proofs.YtgcfcemgeppkmaaW.PrintWords Go.Proofs.YtgcfcemgeppkmaaW.PrintLast Go.Proofs.YtgcfcemgeppkmaaW.PrintMore
open Go.Proofs.Ytgcfcemgeppkmaa.Ord Go.Proofs.Ytgcfcemgeppkmaa.Dist
set_option linter.unusedVariables false
set_option linter.unusedSimpArgs false
variable {w w' : World} {own own' S : Nat → Prop} {rb : Nat} {K : Int} {v : Value} {Z : List (Rv × RP)} {c : Cnt}
def cellsR (x : Rv) : Array Value := #[.int .i64 x.a, .int .i64 x.b, .int .i64 x.ver, .slice x.sA x.sn x.sc, .slice x.dA x.dn x.dc, .slice x.rA x.rn x.rc]
theorem reps_rv (x : Rv) : Reps (fun (p : Rv) cs => cs = encR p) 6 [x] (encR x) := by
  refine ⟨rfl, fun j p hj => ?_⟩
  match j with
  | 0 =>
    obtain rfl : x = p := by simpa using hj
    rfl
  | j + 1 => simp at hj
theorem R_boxS {W : World} {g base : Nat} (hb : W.heap[g]? = some (.cells #[] 25 (0, 0))) (hg : base ≤ g) : Kd.R k25 25 W base (fun _ => True) (.slice (some ⟨g, 0, none⟩) 0 0) [] :=
  ⟨fun _ _ => trivial, [], ⟨rfl, .inr ⟨g, 0, #[], rfl, hg, hb, Nat.le_refl _, Nat.zero_le _, rfl, rfl⟩⟩, Reps.none _ _⟩
theorem boxK_kept {W w1 : World} {g : Nat} {cs : Array Value} (h0 : W.heap[g]? = some (.cells #[] 25 (0, 0))) (hg : W.grownBy w1 (Value.slice (some ⟨g, 0, none⟩) 0 0).ownBlock) (b : Nat) (hb : W.heap[b]? = some (.cells cs 127 (0, 0))) : w1.heap[b]? = some (.cells cs 127 (0, 0)) :=
  (hg.block b (blk_lt hb) (fun e => by
    have e' : b = g := by simpa [Value.ownBlock] using e
    subst e'
    rw [hb] at h0
    injection h0 with h0
    injection h0 with _ h0 _
    exact absurd h0 (by decide))).trans hb
theorem Chg.low {a b c : World} (h : Chg S a b) (hb : Below a.heap.size b c) : Chg S a c :=
  ⟨hb.os.trans h.os, hb.tape.trans h.tape, hb.output.trans h.output, Nat.le_trans h.size hb.size, fun i hi hn => (hb.block i hi).trans (h.block i hi hn)⟩
theorem Below.lower {a b : World} {n : Nat} (h : Below a.heap.size a b) (hn : n ≤ a.heap.size) : Below n a b := (Chg.of_below h (fun _ => False)).below (fun _ h => h.elim) hn
theorem set6 {w : World} {g : Nat} {x0 x : Rv} (hy : w.heap[g]? = some (.cells (cellsR x0) 127 (0, 0))) : ((((((w.setCell ⟨g, 0, none⟩ (.int .i64 x.a)).setCell ⟨g, 1, none⟩ (.int .i64 x.b)).setCell ⟨g, 2, none⟩ (.int .i64 x.ver)).setCell ⟨g, 3, none⟩ (.slice x.sA x.sn x.sc)).setCell ⟨g, 4, none⟩ (.slice x.dA x.dn x.dc)).setCell ⟨g, 5, none⟩ (.slice x.rA x.rn x.rc)).heap[g]? = some (.cells (cellsR x) 127 (0, 0)) :=
  set_blk (set_blk (set_blk (set_blk (set_blk (set_blk hy 0 _) 1 _) 2 _) 3 _) 4 _) 5 _
theorem set6_chg {w : World} (g : Nat) (x : Rv) : Chg (fun k => k = g) w ((((((w.setCell ⟨g, 0, none⟩ (.int .i64 x.a)).setCell ⟨g, 1, none⟩ (.int .i64 x.b)).setCell ⟨g, 2, none⟩ (.int .i64 x.ver)).setCell ⟨g, 3, none⟩ (.slice x.sA x.sn x.sc)).setCell ⟨g, 4, none⟩ (.slice x.dA x.dn x.dc)).setCell ⟨g, 5, none⟩ (.slice x.rA x.rn x.rc)) :=
  ((((((Chg.refl (fun k => k = g) w).set_ (p := ⟨g, 0, none⟩) (.inl rfl) _).set_ (p := ⟨g, 1, none⟩) (.inl rfl) _).set_ (p := ⟨g, 2, none⟩) (.inl rfl) _).set_ (p := ⟨g, 3, none⟩) (.inl rfl) _).set_ (p := ⟨g, 4, none⟩) (.inl rfl) _).set_ (p := ⟨g, 5, none⟩) (.inl rfl) _
/-- Somebody's rows, handed in. -/
structure FieldR (w : World) (F : Nat → Prop) (Ad : Option Addr) (cd : Nat) (d : List Int) : Prop where
  c : Kd.C (Kd.int .i64) w Ad d.length d
  cap : d.length ≤ cd ∧ d.length ≤ 1000
  f : ∀ ad, Ad = some ad → 0 < d.length → F ad.block
theorem FieldR.chg {F : Nat → Prop} {Ad : Option Addr} {cd : Nat} {d : List Int} (h : FieldR w F Ad cd d) (hc : Chg S w w') (hn : ∀ k, F k → ¬ S k) : FieldR w' F Ad cd d :=
  { h with c := flat_int h.c hc (fun ad e h0 => hn _ (h.f ad e h0)) }
theorem ask_end {F : Nat → Prop} {wA wr wc w6 : World} {gx : Nat} {v0 v6 : Value} {c' : Cnt} {x0 : Rv} {p0 : RP} {x : Rv × RP} {rest : List (Rv × RP)} (HM : RSh w own rb K v Z c) (hown : ∀ b, own b → b < w.heap.size) (hF : ∀ k, F k → k < w.heap.size ∧ k ≠ rb)
    (hBC : Below w.heap.size w wA) (hgx : w.heap.size ≤ gx) (hgxA : gx < wA.heap.size) (hLC : Chg (fun k => k = gx) wA wr) (hQH : Chg (fun k => k = rb) wr wc) (hB6 : Below wc.heap.size wc w6)
    (hbl : w6.heap[rb]? = some (.cells (rsCells K v0 c') 82 (0, 0))) (ho : Kd.R kRv 127 w6 wc.heap.size (fun _ => True) v6 (x.1 :: rest.map (·.1)))
    (hm0 : MeanR wA (fun k => (own k ∨ F k ∨ (w.heap.size ≤ k ∧ k < wA.heap.size)) ∧ k ≠ rb ∧ k ≠ gx) x0 p0) (hx : x = (x0, p0) ∨ x ∈ Z) (hrest : ∀ z, z ∈ rest → z ∈ Z) :
    RSh (w6.setCell ⟨rb, 1, none⟩ v6) (fun k => own k ∨ F k ∨ (w.heap.size ≤ k ∧ k < (w6.setCell ⟨rb, 1, none⟩ v6).heap.size)) rb K v6 (x :: rest) c' ∧ Chg own w (w6.setCell ⟨rb, 1, none⟩ v6) := by
  have hs : Chg (fun k => k = rb) w6 (w6.setCell ⟨rb, 1, none⟩ v6) := (Chg.refl (fun k => k = rb) w6).set_ (p := ⟨rb, 1, none⟩) (.inl rfl) _
  have z1 := hBC.size
  have z2 := hLC.size
  have z3 := hQH.size
  have z4 := hB6.size
  have z5 := hs.size
  have hrb := hown _ HM.ownB
  -- from wA on
  have hA : Chg (fun k => k = rb ∨ k = gx) wA (w6.setCell ⟨rb, 1, none⟩ v6) :=
    (((hLC.mono (fun k hk => .inr hk)).trans (hQH.mono (fun k hk => .inl hk))).trans (Chg.of_below hB6 _)).trans (hs.mono (fun k hk => .inl hk))
  have hW : Chg (fun k => k = rb ∨ w.heap.size ≤ k) w (w6.setCell ⟨rb, 1, none⟩ v6) :=
    (Chg.of_below hBC _).then_ hA (fun k hk => hk.elim (fun h => .inl (.inl h)) (fun h => .inl (.inr (show w.heap.size ≤ k by omega))))
  have hmz : ∀ z, z ∈ Z → MeanR (w6.setCell ⟨rb, 1, none⟩ v6) (fun k => (own k ∨ F k ∨ (w.heap.size ≤ k ∧ k < (w6.setCell ⟨rb, 1, none⟩ v6).heap.size)) ∧ k ≠ rb) z.1 z.2 := fun z hz =>
    ((HM.mean z hz).chg hW (fun k hk e => by
      have h1 := hown k hk.1
      rcases e with e | e
      · exact hk.2 e
      · have h2 : w.heap.size ≤ k := e
        omega)).mono (fun k hk => ⟨.inl hk.1, hk.2⟩)
  refine ⟨⟨?_, ?_, ?_, .inl HM.ownB⟩, ?_⟩
  · have := set_blk hbl 1 v6
    exact this
  · have h1 := hs.R (Kd.R_bound ho) (fun k hk e => by
      have h2 : wc.heap.size ≤ k := hk.2.1
      have h3 : k = rb := e
      omega)
    refine Kd.R_mono (Kd.R_lower h1 (Nat.zero_le _)) (fun k hk => .inr (.inr ?_))
    have h2 : wc.heap.size ≤ k := hk.2.1
    have h3 := hk.2.2.1
    omega
  · intro z hz
    rcases List.mem_cons.1 hz with rfl | hz
    · rcases hx with rfl | hx
      · refine (hm0.chg hA (fun k hk e => ?_)).mono (fun k hk => ⟨?_, hk.2.1⟩)
        · rcases e with e | e
          · exact hk.2.1 e
          · exact hk.2.2 e
        · rcases hk.1 with h | h | h
          · exact .inl h
          · exact .inr (.inl h)
          · exact .inr (.inr ⟨h.1, by omega⟩)
      · exact hmz z hx
    · exact hmz z (hrest z hz)
  · exact (Chg.of_below hBC own).then_ hA (fun k hk => hk.elim (fun h => .inl (by rw [h]; exact HM.ownB)) (fun h => .inr (by omega)))
set_option maxRecDepth 100000 in
set_option maxHeartbeats 8000000 in
theorem ask_calls {F : Nat → Prop} (h : RSh w own rb K v Z c) (hown : ∀ b, own b → b < w.heap.size) {a b ver : Int} {As : Option Addr} {cs : Nat} {s : List Seed} (hs : Kd.C k25 w As s.length s) (hcs : s.length ≤ cs ∧ s.length ≤ 1000) {Ad : Option Addr} {cd : Nat} {d : List Int} {Ae : Option Addr} {ce : Nat} {e : List Int} (hd : FieldR w F Ad cd d) (he : FieldR w F Ae ce e) (hF : ∀ k, F k → k < w.heap.size ∧ k ≠ rb) (hZ : Z.length ≤ 1000) (hK : 1 ≤ K ∧ K ≤ 1000) (cok : c.ok) :
    Calls Try.prog 102 #[.pointer (some ⟨rb, 0, none⟩), .int .i64 a, .int .i64 b, .int .i64 ver, .slice As s.length cs, .agg #[.slice Ad d.length cd, .slice Ae e.length ce]] w fun e' w' => ∃ x0 : Rv, e' = .returned (.bool (askF a b ver s (x0, ⟨a, b, ver, s, d, e⟩) Z).right) ∧ ∃ v', RSh w' (fun k => own k ∨ F k ∨ (w.heap.size ≤ k ∧ k < w'.heap.size)) rb K v' ((askF a b ver s (x0, ⟨a, b, ver, s, d, e⟩) Z).x :: askR K (askF a b ver s (x0, ⟨a, b, ver, s, d, e⟩) Z)) (askC K (askF a b ver s (x0, ⟨a, b, ver, s, d, e⟩) Z) c) ∧ Chg own w w' := by
  have HM := Aside0.mk h
  have HOWN := Aside0.mk hown
  have HS := Aside0.mk hs
  have HCS := Aside0.mk hcs
  have HD := Aside0.mk hd
  have HE := Aside0.mk he
  have HF := Aside0.mk hF
  have HZ := Aside0.mk hZ
  have HK := Aside0.mk hK
  have COK := Aside0.mk cok
  have HFAS : Aside0 (∀ ad, As = some ad → 0 < s.length → ad.block < w.heap.size) := ⟨fun ad e0 h0 => by
    obtain ⟨ad', e1, h1, _⟩ := at_T25 hs 0 (by omega) (by omega)
    rw [e0] at e1
    injection e1 with e1
    subst e1
    have h2 := World.block_lt_of_cell? w _ h1
    exact h2⟩
  clear h hown hs hcs hd he hF hZ hK cok
  go_enter Try.func102, Try.ntmps102
  go_upto_region 3 with ((with_reducible refine gate_dst (N := 11) rfl ?_); refine box_event ?hg (N := 11) ?hd (cs := #[.slice Ad d.length cd, .slice Ae e.length ce]) (t := 60) ?hr ?_; (case hd => rfl); (case hg => rfl); (case hr => first | (go_simp; done) | (go_simp; rfl)); intro gf hg w1 hbox hb; have HX1 := Aside0.mk hbox; have HB1 := Aside0.mk hb; have HG1 : Aside0 (w.heap.size ≤ gf) := ⟨by rw [hg]; exact Nat.le_refl _⟩; clear hb hbox hg)
  have hr1 : Below w1.heap.size w1 w1 := Below.refl _ _
  have HR1 := Aside0.mk hr1
  have HRS : Aside0 (∀ W, Below w1.heap.size w1 W → Kd.C k25 W As s.length s) := ⟨fun W hb => Kd.C_below (Kd.C_below HS.out HB1.out) hb⟩
  have q0 := cell_blk (j := 0) (u := .slice Ad d.length cd) HX1.out rfl
  have q1 := cell_blk (j := 1) (u := .slice Ae e.length ce) HX1.out rfl
  have hgf : gf < w1.heap.size := blk_lt HX1.out
  have HGF := Aside0.mk hgf
  have HFAR : Aside0 (∀ (w' : World) (b : Nat) (u0 u1 u2 u3 u4 u5 : Value), w1.heap.size ≤ b → Below w1.heap.size w1 w' → ((((((w'.setCell ⟨b, 0, none⟩ u0).setCell ⟨b, 1, none⟩ u1).setCell ⟨b, 2, none⟩ u2).setCell ⟨b, 3, none⟩ u3).setCell ⟨b, 4, none⟩ u4).setCell ⟨b, 5, none⟩ u5).cell? ⟨gf, 0, none⟩ = some (.slice Ad d.length cd) ∧ ((((((w'.setCell ⟨b, 0, none⟩ u0).setCell ⟨b, 1, none⟩ u1).setCell ⟨b, 2, none⟩ u2).setCell ⟨b, 3, none⟩ u3).setCell ⟨b, 4, none⟩ u4).setCell ⟨b, 5, none⟩ u5).cell? ⟨gf, 1, none⟩ = some (.slice Ae e.length ce)) := ⟨fun w' b u0 u1 u2 u3 u4 u5 hb hw => by
    have hne : gf ≠ b := by omega
    simp only [cfar (a := ⟨gf, 0, none⟩) (p := ⟨b, _, none⟩) hne, cfar (a := ⟨gf, 1, none⟩) (p := ⟨b, _, none⟩) hne]
    exact ⟨pw_cell_below hw q0, pw_cell_below hw q1⟩⟩
  clear hr1 hgf
  go_cut [16] (fun v16 wc => ∃ (gx : Nat) (B : Option Addr) (n : Nat), v16 = .pointer (some ⟨gx, 0, none⟩) ∧ Aside0 (w1.heap.size ≤ gx) ∧ Aside0 (wc.heap[gx]? = some (.cells (cellsR ⟨a, b, ver, B, s.length, n, Ad, d.length, cd, Ae, e.length, ce⟩) 127 (0, 0))) ∧ Aside0 (RowS wc w1.heap.size (fun _ => True) (.slice B s.length n) s) ∧ Aside0 (Below w1.heap.size w1 wc))
  case first =>
    go_region_held3 (fun w' => w'.cell? ⟨gf, 0, none⟩ = some (.slice Ad d.length cd) ∧ w'.cell? ⟨gf, 1, none⟩ = some (.slice Ae e.length ce))
      (first | with_reducible exact ⟨q0, q1⟩ | with_reducible exact HFAR.out _ _ _ _ _ _ _ _ HGY.out HB3.out | ((with_reducible refine ⟨pw_cell_below ?_ q0, pw_cell_below ?_ q1⟩) <;> ((repeat (first | exact HB3.out | exact HR1.out | apply below_alloc | apply pw_below_drewN | apply below_drew1)); done)) | go_keep)
      (first
        | (refine Kd.R_append_rows_step k25 (w0 := w1) w1.heap.size (by rfl) (.tmp 21) (.tmp 22) 22 25 (.agg #[.int .i64 0, .int .i64 0, .int .i64 0]) 24 (by rfl) Try.underlying22 info25 rfl (by decide) (by omega) _ [] s _ _ _ (fun _ => True) (fun _ => False) rfl rfl ?aO (HRS.out _ ?aQ) (fun p cs h => by rw [k25_open h]; exact k25_mkM _ _ _ p) (fun _ hk => hk.elim) (fun _ _ => trivial) ?aB ?aS ?aL ?_; (case aO => (refine R_boxS ?aH ?aG; (case aH => (first | (refine heapAtR _ _ _ ?_; (first | rfl | (simp only [World.size_alloc, World.size_drew, World.heap_drewN]; done) | (simp only [World.size_alloc, World.size_drew, World.heap_drewN]; omega))) | (refine blk_alloc (heapAtR _ _ _ ?_) _; (first | rfl | (simp only [World.size_alloc, World.size_drew, World.heap_drewN]; done) | (simp only [World.size_alloc, World.size_drew, World.heap_drewN]; omega))))); (case aG => (first | exact Nat.le_refl _ | exact Nat.le_succ _ | (simp; done))))); (case aQ => (skip; (repeat (first | exact HR1.out | apply below_alloc | apply pw_below_drewN | apply below_drew1)))); (case aB => (repeat (first | exact HR1.out | apply below_alloc | apply pw_below_drewN | apply below_drew1))); (case aS => (refine below_size ?_; (repeat (first | exact HR1.out | apply below_alloc | apply pw_below_drewN | apply below_drew1)))); (case aL => (have h_ := HCS.out; simp only [List.length_nil]; omega)); intro v3 w3 ho hb hg hat; rw [List.nil_append] at ho; obtain ⟨B3, n3, rfl⟩ := Kd.R_slice ho; have hx3 := fun cs => @boxK_kept _ _ _ cs (by (first | (refine heapAtR _ _ _ ?_; (first | rfl | (simp only [World.size_alloc, World.size_drew, World.heap_drewN]; done) | (simp only [World.size_alloc, World.size_drew, World.heap_drewN]; omega))) | (refine blk_alloc (heapAtR _ _ _ ?_) _; (first | rfl | (simp only [World.size_alloc, World.size_drew, World.heap_drewN]; done) | (simp only [World.size_alloc, World.size_drew, World.heap_drewN]; omega))))) hg; (try (have yb0 : w3.heap[w1.heap.size]? = some (Obj.cells #[.int .i64 0, .int .i64 0, .int .i64 0, .slice none 0 0, .slice none 0 0, .slice none 0 0] 127 (0, 0)) := hx3 _ _ (by (first | (refine heapAtR _ _ _ ?_; (first | rfl | (simp only [World.size_alloc, World.size_drew, World.heap_drewN]; done) | (simp only [World.size_alloc, World.size_drew, World.heap_drewN]; omega))) | (refine blk_alloc (heapAtR _ _ _ ?_) _; (first | rfl | (simp only [World.size_alloc, World.size_drew, World.heap_drewN]; done) | (simp only [World.size_alloc, World.size_drew, World.heap_drewN]; omega))))); obtain ⟨gy, hgy⟩ : ∃ g, g = w1.heap.size := ⟨_, rfl⟩; have HGY : Aside0 (w1.heap.size ≤ gy) := ⟨by omega⟩; rw [← hgy] at yb0 ⊢; have yb0c0 := cell_blk (j := 0) (u := .int .i64 0) yb0 rfl; have yb0f0 := free_blk yb0 0; have yb0c1 := cell_blk (j := 1) (u := .int .i64 0) yb0 rfl; have yb0f1 := free_blk yb0 1; have yb0c2 := cell_blk (j := 2) (u := .int .i64 0) yb0 rfl; have yb0f2 := free_blk yb0 2; have yb0c3 := cell_blk (j := 3) (u := .slice none 0 0) yb0 rfl; have yb0f3 := free_blk yb0 3; have yb0c4 := cell_blk (j := 4) (u := .slice none 0 0) yb0 rfl; have yb0f4 := free_blk yb0 4; have yb0c5 := cell_blk (j := 5) (u := .slice none 0 0) yb0 rfl; have yb0f5 := free_blk yb0 5; clear hgy; have HYB := Aside0.mk yb0; clear yb0)); (try (have yb1 : w3.heap[w1.heap.size + 1]? = some (Obj.cells #[.int .i64 0, .int .i64 0, .int .i64 0, .slice none 0 0, .slice none 0 0, .slice none 0 0] 127 (0, 0)) := hx3 _ _ (by (first | (refine heapAtR _ _ _ ?_; (first | rfl | (simp only [World.size_alloc, World.size_drew, World.heap_drewN]; done) | (simp only [World.size_alloc, World.size_drew, World.heap_drewN]; omega))) | (refine blk_alloc (heapAtR _ _ _ ?_) _; (first | rfl | (simp only [World.size_alloc, World.size_drew, World.heap_drewN]; done) | (simp only [World.size_alloc, World.size_drew, World.heap_drewN]; omega))))); obtain ⟨gy, hgy⟩ : ∃ g, g = w1.heap.size + 1 := ⟨_, rfl⟩; have HGY : Aside0 (w1.heap.size ≤ gy) := ⟨by omega⟩; rw [← hgy] at yb1 ⊢; have yb1c0 := cell_blk (j := 0) (u := .int .i64 0) yb1 rfl; have yb1f0 := free_blk yb1 0; have yb1c1 := cell_blk (j := 1) (u := .int .i64 0) yb1 rfl; have yb1f1 := free_blk yb1 1; have yb1c2 := cell_blk (j := 2) (u := .int .i64 0) yb1 rfl; have yb1f2 := free_blk yb1 2; have yb1c3 := cell_blk (j := 3) (u := .slice none 0 0) yb1 rfl; have yb1f3 := free_blk yb1 3; have yb1c4 := cell_blk (j := 4) (u := .slice none 0 0) yb1 rfl; have yb1f4 := free_blk yb1 4; have yb1c5 := cell_blk (j := 5) (u := .slice none 0 0) yb1 rfl; have yb1f5 := free_blk yb1 5; clear hgy; have HYB := Aside0.mk yb1; clear yb1)); have HO3 := Aside0.mk ho; have HB3 := Aside0.mk hb; clear ho hb hg hat hx3))
    all_goals (try go_wp2_with fail)
    all_goals go_meet
    all_goals first
      | exact ⟨_, B3, n3, rfl, ⟨HB3.out.size⟩, ⟨heapAtR _ _ _ rfl⟩, ⟨Kd.R_alloc HO3.out _⟩, ⟨below_alloc HB3.out _⟩⟩
      | exact ⟨gy, B3, n3, rfl, HGY, ⟨set6 (x0 := default) (x := ⟨a, b, ver, B3, s.length, n3, Ad, d.length, cd, Ae, e.length, ce⟩) HYB.out⟩, ⟨(set6_chg gy ⟨a, b, ver, B3, s.length, n3, Ad, d.length, cd, Ae, e.length, ce⟩).R (Kd.R_types HO3.out HYB.out (by decide)) (fun k hk e => hk.2 e) |> fun h => Kd.R_mono h (fun _ _ => trivial)⟩, ⟨((Chg.of_below HB3.out (fun k => w1.heap.size ≤ k)).then_ (set6_chg gy ⟨a, b, ver, B3, s.length, n3, Ad, d.length, cd, Ae, e.length, ce⟩) (fun k hk => .inl (show w1.heap.size ≤ k by have hk' : k = gy := hk; have := HGY.out; omega))).below (fun k hk => hk) (Nat.le_refl _)⟩⟩
      | (trace_state; fail)
  case rest =>
    obtain ⟨gx, B, n, rfl, HGX, HXB, HXS, HXW⟩ := hcut
    clear q0 q1 HFAR HRS
    obtain ⟨x0, hx0⟩ : ∃ x0 : Rv, x0 = ⟨a, b, ver, B, s.length, n, Ad, d.length, cd, Ae, e.length, ce⟩ := ⟨_, rfl⟩
    obtain ⟨p0, hp0⟩ : ∃ p0 : RP, p0 = ⟨a, b, ver, s, d, e⟩ := ⟨_, rfl⟩
    have hXB := HXB.out
    rw [← hx0] at hXB
    have HXB := Aside0.mk hXB
    have hBc : Below w.heap.size w wc := below_step HB1.out HXW.out
    have HMc := Aside0.mk (HM.out.below hBc)
    have hmean0 : MeanR wc (fun k => (own k ∨ F k ∨ (w.heap.size ≤ k ∧ k < wc.heap.size)) ∧ k ≠ rb ∧ k ≠ gx) x0 p0 := by
      rw [hx0, hp0]
      have h1 := HCS.out
      have h2 := HD.out.cap
      have h3 := HE.out.cap
      have h6 := HOWN.out _ HM.out.ownB
      have h7 := HGX.out
      have h8 := HB1.out.size
      exact { a := rfl, b := rfl, ver := rfl, sn := ⟨rfl, (R_C HXS.out).2, h1.2⟩, dn := ⟨rfl, h2⟩, rn := ⟨rfl, h3⟩, seeds := (R_C HXS.out).1, dist := (HD.out.chg (Chg.of_below hBc (fun _ => False)) (fun _ _ h => h)).c, dirs := (HE.out.chg (Chg.of_below hBc (fun _ => False)) (fun _ _ h => h)).c,
              so := fun ad e0 _ => by
                have h4 := R_base HXS.out ad e0
                have hxs := Kd.R_types HXS.out hXB (by decide)
                have h9 : B = some ad := e0
                subst h9
                obtain ⟨gz, rfl⟩ := Kd.R_head HXS.out
                have h5 := (hxs.1 gz (by simp [Value.ownBlock])).2
                have h10 : w1.heap.size ≤ gz := h4.1
                exact ⟨.inr (.inr ⟨by show w.heap.size ≤ gz; omega, h4.2⟩), by show gz ≠ rb; omega, h5⟩
              dO := fun ad e0 h0 => by
                have h4 := HD.out.f ad e0 h0
                have h5 := HF.out _ h4
                exact ⟨.inr (.inl h4), h5.2, by omega⟩
              ro := fun ad e0 h0 => by
                have h4 := HE.out.f ad e0 h0
                have h5 := HF.out _ h4
                exact ⟨.inr (.inl h4), h5.2, by omega⟩ }
    have HMEAN := Aside0.mk hmean0
    have HX0 := Aside0.mk hx0
    have HP0 := Aside0.mk hp0
    have HBC := Aside0.mk hBc
    obtain ⟨L, hL⟩ : ∃ L, L = Z.map (·.1) := ⟨_, rfl⟩
    have hLZ : L.length = Z.length := by rw [hL, List.length_map]
    have hrow := HMc.out.row
    rw [← hL] at hrow
    obtain ⟨A, cap, ev⟩ := Kd.R_slice hrow
    subst ev
    have HROW := Aside0.mk hrow
    have HLZ := Aside0.mk hLZ
    have HL := Aside0.mk hL
    have hrbx : rb ≠ gx := by have h1 := HOWN.out _ HM.out.ownB; have h2 := HGX.out; have h3 := HB1.out.size; omega
    have HRBX := Aside0.mk hrbx
    have hownx : ∀ k, own k → ¬ k = gx := fun k hk e0 => by have h1 := HOWN.out _ hk; have h2 := HGX.out; have h3 := HB1.out.size; omega
    have HOWNX := Aside0.mk hownx
    have HSC : Aside0 (Kd.C k25 wc As s.length s) := ⟨Kd.C_below HS.out hBc⟩
    have HGXC : Aside0 (gx < wc.heap.size) := ⟨blk_lt hXB⟩
    have hc1 := cell_blk (j := 1) (u := .slice A L.length cap) HMc.out.blk rfl
    clear hXB hBc hmean0 hx0 hp0 hL hLZ hrow hrbx hownx HXS HXW HR1 HX1
    go_wp2_with fail
    go_loopg [13, 14, 15, 17] L.length (fun gg v13 v14 v15 v17 wr => ∃ (i : Nat) (st : AS), v13 = .bool st.had ∧ v14 = .bool st.right ∧ v17 = .int .i64 i ∧ i ≤ L.length ∧ L.length - i ≤ gg ∧ Aside0 (st = askF a b ver s (x0, p0) (Z.take i)) ∧ Aside0 (Kd.R kRv 127 wr wc.heap.size (fun _ => True) v15 (st.rest.map (·.1))) ∧ Aside0 (wr.heap[gx]? = some (.cells (cellsR st.x.1) 127 (0, 0))) ∧ Aside0 (Chg (fun k => k = gx) wc wr))
    case atStart => exact ⟨0, ⟨false, false, [], (x0, p0)⟩, rfl, rfl, rfl, Nat.zero_le _, Nat.le_refl _, ⟨rfl⟩, ⟨Kd.R_nil _ _ _ _ _⟩, HXB, ⟨Chg.refl _ _⟩⟩
    case round =>
      obtain ⟨i, st, rfl, rfl, rfl, hi, hgg, LST, LR, LX, LC⟩ := hrel
      have c1 := cell_blk (j := 1) (u := .slice A L.length cap) (LC.out.blk HMc.out.blk HRBX.out) rfl
      by_cases hlt : i < L.length
      · have hlt2 : (i : Int) < (L.length : Int) := by omega
        have hi0 : (0 : Int) ≤ (i : Int) := by omega
        have hltZ : i < Z.length := by have := HLZ.out; omega
        obtain ⟨ad, hA, y0, y1, y2, y3, y4, y5⟩ := rv_at (R_C (LC.out.R HROW.out (fun k hk => HOWNX.out k hk))).1 hlt
        have hzz : L[i] = Z[i].1 := by simp only [HL.out, List.getElem_map]
        obtain ⟨x, hx⟩ : ∃ x, x = L[i] := ⟨_, rfl⟩
        obtain ⟨z, hz⟩ : ∃ z, z = Z[i] := ⟨_, rfl⟩
        rw [← hx] at y0 y1 y2 y3 y4 y5
        have hxz : x = z.1 := by rw [hx, hz, hzz]
        have hmz := (HMc.out.mean z (by rw [hz]; exact List.getElem_mem hltZ)).chg LC.out (fun k hk => HOWNX.out k hk.1)
        have hnext : askF a b ver s (x0, p0) (Z.take (i + 1)) = askStep a b ver s st z := by rw [askF_succ _ _ _ _ _ _ hltZ, ← LST.out, hz]
        have HNEXT := Aside0.mk hnext
        have HMZ := Aside0.mk hmz
        have HXZ := Aside0.mk hxz
        have ema : x.a = z.2.a := by rw [hxz]; exact hmz.a
        have emb : x.b = z.2.b := by rw [hxz]; exact hmz.b
        have emv : x.ver = z.2.ver := by rw [hxz]; exact hmz.ver
        have ems : x.sn = z.2.seeds.length := by rw [hxz]; exact hmz.sn.1
        have HEM := Aside0.mk (And.intro ema (And.intro emb emv))
        have hrl : st.rest.length ≤ 2000 := by
          rw [LST.out]
          have h1 := askF_rest a b ver s (x0, p0) (Z.take i) ⟨false, false, [], (x0, p0)⟩
          have h2 := HZ.out
          have h3 : (Z.take i).length ≤ Z.length := by rw [List.length_take]; omega
          unfold askF
          simp only [List.length_nil] at h1
          omega
        have HRL := Aside0.mk hrl
        have HI := Aside0.mk (And.intro hi (And.intro hgg hlt))
        subst hA
        clear hzz hx hz hxz hmz hnext ema emb emv hrl hi hgg hltZ
        by_cases hm : x.a = a ∧ x.b = b
        · obtain ⟨hma, hmb⟩ := hm
          have k1 : (x.a != a) = false := by simp [hma]
          have k2 : (x.b != b) = false := by simp [hmb]
          have hma2 : ¬ (z.2.a ≠ a ∨ z.2.b ≠ b) := by rw [← HEM.out.1, ← HEM.out.2.1]; simp [hma, hmb]
          have HNO := Aside0.mk hma2
          rw [ems] at y3
          have HSV := Aside0.mk (refSameV z.2.seeds s (by have h1 := HMZ.out.sn; omega) 5000 (by have h1 := HMZ.out.sn; omega))
          have hcap : z.2.seeds.length ≤ x.sc := by have h1 := HMZ.out.sn; rw [HXZ.out]; omega
          have HCAP := Aside0.mk hcap
          have HSEED : Aside0 (Kd.C k25 wr x.sA z.2.seeds.length z.2.seeds) := ⟨by rw [HXZ.out]; exact HMZ.out.seeds⟩
          have HASR : Aside0 (Kd.C k25 wr As s.length s) := ⟨flat_seed HSC.out LC.out (fun ad0 e0 h0 e1 => by have h1 := HFAS.out ad0 e0 h0; have h2 := HGX.out; have h3 := HB1.out.size; have h4 : ad0.block = gx := e1; omega)⟩
          clear hma hmb hma2 hcap
          by_cases hv : x.ver = ver
          · have k3 : (x.ver == ver) = true := by simp [hv]
            have HV : Aside0 (z.2.ver = ver) := ⟨by rw [← HEM.out.2.2]; exact hv⟩
            clear hv
            by_cases hq : z.2.seeds = s
            · have k4 : decide (z.2.seeds = s) = true := decide_eq_true hq
              have HNX : Aside0 (askF a b ver s (x0, p0) (Z.take (i + 1)) = ⟨true, true, st.rest, z⟩) := ⟨by rw [HNEXT.out]; unfold askStep; rw [if_neg HNO.out, if_pos ⟨HV.out, hq⟩]⟩
              clear hq
              have b0 := cell_blk (j := 0) (u := .int .i64 st.x.1.a) LX.out rfl
              have b1 := cell_blk (j := 1) (u := .int .i64 st.x.1.b) LX.out rfl
              have b2 := cell_blk (j := 2) (u := .int .i64 st.x.1.ver) LX.out rfl
              have b3 := cell_blk (j := 3) (u := .slice st.x.1.sA st.x.1.sn st.x.1.sc) LX.out rfl
              have b4 := cell_blk (j := 4) (u := .slice st.x.1.dA st.x.1.dn st.x.1.dc) LX.out rfl
              have b5 := cell_blk (j := 5) (u := .slice st.x.1.rA st.x.1.rn st.x.1.rc) LX.out rfl
              have fb0 := free_blk LX.out 0
              have fb1 := free_blk LX.out 1
              have fb2 := free_blk LX.out 2
              have fb3 := free_blk LX.out 3
              have fb4 := free_blk LX.out 4
              have fb5 := free_blk LX.out 5
              go_wp2_with (go_at_call 31; refine (herdsmanref7_SameSeeds.calls 5000 x.sA x.sc z.2.seeds As cs s _ _ HSEED.out HCAP.out HASR.out HCS.out.1 HSV.out).mono ?_; rintro e w5 ⟨rfl, ⟨nd, rfl⟩⟩)
              go_roundg (L.length - (i + 1))
              case measure => have := HI.out; omega
              case rel =>
                have hII := HI.out
                have hLL := HLZ.out
                have hZZ := HZ.out
                rw [← ems]
                obtain ⟨w6, hw6⟩ : ∃ w6, w6 = ((((((wr.drewN nd).setCell ⟨gx, 0, none⟩ (.int .i64 x.a)).setCell ⟨gx, 1, none⟩ (.int .i64 x.b)).setCell ⟨gx, 2, none⟩ (.int .i64 x.ver)).setCell ⟨gx, 3, none⟩ (.slice x.sA x.sn x.sc)).setCell ⟨gx, 4, none⟩ (.slice x.dA x.dn x.dc)).setCell ⟨gx, 5, none⟩ (.slice x.rA x.rn x.rc) := ⟨_, rfl⟩
                rw [← hw6]
                have hx6 : w6.heap[gx]? = some (.cells (cellsR x) 127 (0, 0)) := by rw [hw6]; exact set6 (x0 := st.x.1) (blk_drewN LX.out nd)
                have hc6 : Chg (fun k => k = gx) (wr.drewN nd) w6 := by rw [hw6]; exact set6_chg gx x
                rw [HXZ.out] at hx6
                have hr6 := hc6.R (Kd.R_bound (Kd.R_drewN LR.out nd)) (fun k hk e1 => by have h1 : wc.heap.size ≤ k := hk.2.1; have h2 := HGXC.out; have h3 : k = gx := e1; omega)
                exact ⟨i + 1, ⟨true, true, st.rest, z⟩, rfl, rfl, by first | rfl | (rw [w64 (n := (i : Int) + 1) (by omega) (by omega)]; rfl), by omega, Nat.le_refl _, ⟨HNX.out.symm⟩, ⟨Kd.R_mono hr6 (fun _ _ => trivial)⟩, ⟨hx6⟩, ⟨(LC.out.low (pw_below_drewN (Below.refl _ _) nd)).trans hc6⟩⟩
            · have k4 : decide (z.2.seeds = s) = false := decide_eq_false hq
              have HNX : Aside0 (askF a b ver s (x0, p0) (Z.take (i + 1)) = ⟨true, false, st.rest, st.x⟩) := ⟨by rw [HNEXT.out]; unfold askStep; rw [if_neg HNO.out, if_neg (fun h => hq h.2)]⟩
              clear hq
              go_wp2_with (go_at_call 31; refine (herdsmanref7_SameSeeds.calls 5000 x.sA x.sc z.2.seeds As cs s _ _ HSEED.out HCAP.out HASR.out HCS.out.1 HSV.out).mono ?_; rintro e w5 ⟨rfl, ⟨nd, rfl⟩⟩)
              go_roundg (L.length - (i + 1))
              case measure => have := HI.out; omega
              case rel =>
                have hII := HI.out
                have hLL := HLZ.out
                have hZZ := HZ.out
                exact ⟨i + 1, ⟨true, false, st.rest, st.x⟩, rfl, by first | rfl | (simp only [k4]), by first | rfl | (rw [w64 (n := (i : Int) + 1) (by omega) (by omega)]; rfl), by omega, Nat.le_refl _, ⟨HNX.out.symm⟩, ⟨Kd.R_drewN LR.out nd⟩, ⟨LX.out⟩, ⟨LC.out.low (pw_below_drewN (Below.refl _ _) nd)⟩⟩
          · have k3 : (x.ver == ver) = false := by simp [hv]
            have HNX : Aside0 (askF a b ver s (x0, p0) (Z.take (i + 1)) = ⟨true, false, st.rest, st.x⟩) := ⟨by rw [HNEXT.out]; unfold askStep; rw [if_neg HNO.out, if_neg (fun h => hv (by rw [HEM.out.2.2]; exact h.1))]⟩
            clear hv
            go_wp2_with fail
            go_roundg (L.length - (i + 1))
            case measure => have := HI.out; omega
            case rel =>
              have hII := HI.out
              have hLL := HLZ.out
              have hZZ := HZ.out
              exact ⟨i + 1, ⟨true, false, st.rest, st.x⟩, rfl, rfl, by first | rfl | (rw [w64 (n := (i : Int) + 1) (by omega) (by omega)]; rfl), by omega, Nat.le_refl _, ⟨HNX.out.symm⟩, LR, LX, LC⟩
        · have k1 : ¬ (x.a = a ∧ x.b = b) := hm
          have HNX : Aside0 (askF a b ver s (x0, p0) (Z.take (i + 1)) = { st with rest := st.rest ++ [z] }) := ⟨by
            rw [HNEXT.out]
            unfold askStep
            rw [if_pos]
            rw [← HEM.out.1, ← HEM.out.2.1]
            by_cases h1 : x.a = a
            · exact .inr (fun h2 => hm ⟨h1, h2⟩)
            · exact .inl h1⟩
          have fin : ∀ (P : Prop), ((x.a != a) = true → P) → ((x.a != a) = false → (x.b != b) = true → P) → P := fun P h1 h2 => if h : x.a = a then h2 (by simp [h]) (by have : ¬ x.b = b := fun h3 => hm ⟨h, h3⟩; simp [this]) else h1 (by simp [h])
          clear hm k1
          refine fin _ (fun k1 => ?_) (fun k1 k2 => ?_)
          all_goals
            clear fin
            obtain ⟨Ar, cr, er⟩ := Kd.R_slice LR.out
            rw [List.length_map] at er
            subst er
            go_wp2_with (first
              | ((with_reducible refine gate_dst (N := 65) rfl ?_); refine Kd.R_lit kRv wr.heap.size 127 ?hg (N := 65) ?hd (xs := [x]) (inner := [.int .i64 x.a, .int .i64 x.b, .int .i64 x.ver, .slice x.sA x.sn x.sc, .slice x.dA x.dn x.dc, .slice x.rA x.rn x.rc]) (ok := fun _ => True) (okp := fun _ => True) ?hr ?hp (fun _ hk => hk) trivial (Below.refl _ _) (Nat.le_refl _) (by simp) ?_; (case hd => rfl); (case hg => rfl); (case hr => first | (go_simp; done) | (go_simp; rfl)); (case hp => exact reps_rv x); intro v5 w5 ho hb _ _; obtain ⟨A5, n5, rfl, _, hC⟩ := Kd.R_reads ho; have HB5 := Aside0.mk hb; have HO5 := Aside0.mk (Kd.R_below LR.out hb); have HL5 := Aside0.mk hC; have HS5 := Aside0.mk (Nat.le_trans LC.out.size hb.size); have c1 := pw_cell_below hb c1; clear ho hb hC)
              | ((with_reducible refine gate_builtin (b := .append) (xs := #[.tmp 57, .tmp 65]) rfl ?_); at_builtin; go_loud (refine Kd.R_append_rows kRv (w0 := wr) wc.heap.size rfl (.tmp 57) (.tmp 65) 80 127 (.agg #[.int .i64 0, .int .i64 0, .int .i64 0, .slice none 0 0, .slice none 0 0, .slice none 0 0]) 96 rfl Try.underlying80 infoRv rfl (by decide) (by omega) _ (st.rest.map (·.1)) [x] _ _ _ (fun _ => True) (fun _ => False) (by rfl) (by rfl) HO5.out HL5.out (fun _ _ h => h) (fun _ h => h.elim) (fun _ _ => trivial) (Below.lower HB5.out LC.out.size) HS5.out (by have := HRL.out; simp only [List.length_map, List.length_cons, List.length_nil]; omega) ?_); intro v6 w6 ho hb hg hat; have HB6 := Aside0.mk hb; have HO6 := Aside0.mk ho; clear ho hb hg hat))
            go_roundg (L.length - (i + 1))
            case measure => have := HI.out; omega
            case rel =>
              have hII := HI.out
              have hLL := HLZ.out
              have hZZ := HZ.out
              exact ⟨i + 1, { st with rest := st.rest ++ [z] }, rfl, rfl, by first | rfl | (rw [w64 (n := (i : Int) + 1) (by omega) (by omega)]; rfl), by omega, Nat.le_refl _, ⟨HNX.out.symm⟩, ⟨by rw [List.map_append, List.map_cons, List.map_nil, ← HXZ.out]; exact HO6.out⟩, ⟨(HB6.out.block gx HGXC.out).trans LX.out⟩, ⟨LC.out.low HB6.out⟩⟩
      · have hi2 : i = L.length := by omega
        subst hi2
        have hlt2 : decide (((L.length : Nat) : Int) < (L.length : Int)) = false := by simp
        have LST2 : Aside0 (st = askF a b ver s (x0, p0) Z) := ⟨by have h1 := LST.out; rw [HLZ.out, List.take_length] at h1; exact h1⟩
        obtain ⟨Ar, cr, er⟩ := Kd.R_slice LR.out
        rw [List.length_map] at er
        subst er
        have HMr := Aside0.mk (HMc.out.chg LC.out (fun k hk => HOWNX.out k hk))
        have HRr : Aside0 (Kd.C kRv wr Ar st.rest.length (st.rest.map (·.1)) ∧ st.rest.length ≤ cr) := ⟨by have h1 := R_C LR.out; rw [List.length_map] at h1; exact h1⟩
        have hbl := HMr.out.blk
        have x4 := cell_blk (j := 4) (u := .int .u64 c.bu) hbl rfl
        have x5 := cell_blk (j := 5) (u := .int .u64 c.hi) hbl rfl
        have x6 := cell_blk (j := 6) (u := .int .u64 c.st) hbl rfl
        have x7 := cell_blk (j := 7) (u := .int .u64 c.ev) hbl rfl
        have x0_ := cell_blk (j := 0) (u := .int .i64 K) hbl rfl
        have f4 := free_blk hbl 4
        have f5 := free_blk hbl 5
        have f6 := free_blk hbl 6
        have f7 := free_blk hbl 7
        have hco := COK.out
        have e4 : IntKind.u64.wrap (c.bu + 1) = c.bu + 1 := by unfold Cnt.ok at hco; rw [IntKind.wrap_u64]; omega
        have e5 : IntKind.u64.wrap (c.hi + 1) = c.hi + 1 := by unfold Cnt.ok at hco; rw [IntKind.wrap_u64]; omega
        have e6 : IntKind.u64.wrap (c.st + 1) = c.st + 1 := by unfold Cnt.ok at hco; rw [IntKind.wrap_u64]; omega
        have e7 : IntKind.u64.wrap (c.ev + 1) = c.ev + 1 := by unfold Cnt.ok at hco; rw [IntKind.wrap_u64]; omega
        have hKK := HK.out
        have k1 : IntKind.i64.wrap (K - 1) = K - 1 := by rw [IntKind.wrap_i64]; omega
        have k2 : wrap64 (K - 1) = K - 1 := w64 (by omega) (by omega)
        obtain ⟨rr, hrr⟩ : ∃ r, r = st.right := ⟨_, rfl⟩
        obtain ⟨hh, hhh⟩ : ∃ r, r = st.had := ⟨_, rfl⟩
        obtain ⟨rn, hrn⟩ : ∃ r, r = st.rest.length := ⟨_, rfl⟩
        rw [← hrr, ← hhh, ← hrn]
        have HRR := Aside0.mk hrr
        have HHH := Aside0.mk hhh
        have HRN := Aside0.mk hrn
        have HQ : Aside0 (∀ w', Chg (fun k => k = rb) wr w' → Kd.C kRv w' Ar st.rest.length (st.rest.map (·.1))) := ⟨fun w' hc => by
          have h1 := R_C (hc.R (Kd.R_bound LR.out) (fun k hk e1 => by have h2 : wc.heap.size ≤ k := hk.2.1; have h3 := HOWN.out _ HM.out.ownB; have h4 := HBC.out.size; have h5 : k = rb := e1; omega))
          rw [List.length_map] at h1
          exact h1.1⟩
        clear hbl hco hKK hrr hhh hrn hi hgg hlt hc1
        generalize wc = wA at *
        go_upto_block 2 with fail
        go_cut [15] (fun v15 wq => ∃ (m : Nat) (Aq : Option Addr), v15 = .slice Aq m cr ∧ Aside0 (m = (askR K st).length) ∧ Aside0 (Kd.C kRv wq Aq m ((askR K st).map (·.1))) ∧ Aside0 (wq.heap[rb]? = some (.cells (rsCells K (.slice A L.length cap) (askC K st c)) 82 (0, 0))) ∧ Aside0 (Chg (fun k => k = rb) wr wq))
        case first =>
          cases rr with
          | true =>
            go_wp2_with fail
            go_meet
            have ea : askR K st = st.rest := by unfold askR; rw [if_pos HRR.out.symm]
            have ec : askC K st c = { c with hi := c.hi + 1 } := by unfold askC; rw [if_pos HRR.out.symm]
            rw [ea, ec]
            have hcc : Chg (fun k => k = rb) wr ((wr.setCell ⟨rb, 5, none⟩ (.int .u64 (c.hi + 1)))) := ((Chg.refl (fun k => k = rb) wr).set_ (p := ⟨rb, 5, none⟩) (.inl rfl) _)
            exact ⟨rn, Ar, rfl, HRN, ⟨by rw [HRN.out]; exact HQ.out _ hcc⟩, ⟨(set_blk HMr.out.blk 5 _)⟩, ⟨hcc⟩⟩
          | false =>
            cases hh with
            | true =>
              go_wp2_with fail
              go_meet
              have ea : askR K st = st.rest := by unfold askR; rw [if_neg (show ¬ st.right = true by rw [← HRR.out]; simp), if_pos HHH.out.symm]
              have ec : askC K st c = { c with st := c.st + 1, bu := c.bu + 1 } := by unfold askC; rw [if_neg (show ¬ st.right = true by rw [← HRR.out]; simp), if_pos HHH.out.symm]
              rw [ea, ec]
              have hcc : Chg (fun k => k = rb) wr (((wr.setCell ⟨rb, 6, none⟩ (.int .u64 (c.st + 1))).setCell ⟨rb, 4, none⟩ (.int .u64 (c.bu + 1)))) := (((Chg.refl (fun k => k = rb) wr).set_ (p := ⟨rb, 6, none⟩) (.inl rfl) _).set_ (p := ⟨rb, 4, none⟩) (.inl rfl) _)
              exact ⟨rn, Ar, rfl, HRN, ⟨by rw [HRN.out]; exact HQ.out _ hcc⟩, ⟨(set_blk (set_blk HMr.out.blk 6 _) 4 _)⟩, ⟨hcc⟩⟩
            | false =>
              by_cases hge : K ≤ (rn : Int)
              · have g1 : decide ((rn : Int) ≥ K) = true := decide_eq_true hge
                have g2 : decide (K ≤ (rn : Int)) = true := decide_eq_true hge
                obtain ⟨i05, hi05, _, _, _⟩ := info_parts infoRv
                have hcut1 := cut_to (P := Try.prog) 80 127 .i64 Try.underlying80 hi05 Ar rn cr (K - 1) (by have := HK.out; omega) (by omega) (by rw [HRN.out]; exact HRr.out.2)
                go_wp2_with fail
                go_meet
                have ea : askR K st = st.rest.take (K - 1).toNat := by unfold askR; rw [if_neg (show ¬ st.right = true by rw [← HRR.out]; simp), if_neg (show ¬ st.had = true by rw [← HHH.out]; simp), if_pos (by rw [← HRN.out]; exact hge)]
                have ec : askC K st c = { c with bu := c.bu + 1, ev := c.ev + 1 } := by unfold askC; rw [if_neg (show ¬ st.right = true by rw [← HRR.out]; simp), if_neg (show ¬ st.had = true by rw [← HHH.out]; simp), if_pos (by rw [← HRN.out]; exact hge)]
                have hl : (st.rest.take (K - 1).toNat).length = (K - 1).toNat := by rw [List.length_take]; have := HRN.out; omega
                rw [ea, ec]
                have hcc : Chg (fun k => k = rb) wr (((wr.setCell ⟨rb, 4, none⟩ (.int .u64 (c.bu + 1))).setCell ⟨rb, 7, none⟩ (.int .u64 (c.ev + 1)))) := (((Chg.refl (fun k => k = rb) wr).set_ (p := ⟨rb, 4, none⟩) (.inl rfl) _).set_ (p := ⟨rb, 7, none⟩) (.inl rfl) _)
                have hq := Kd.C_take (m := (K - 1).toNat) (show Kd.C kRv _ Ar (st.rest.map (·.1)).length (st.rest.map (·.1)) from by rw [List.length_map]; exact HQ.out _ hcc) (by rw [List.length_map]; have := HRN.out; omega)
                rw [← List.map_take, List.length_map, hl] at hq
                exact ⟨(K - 1).toNat, Ar, by first | rfl | (congr 1; omega), ⟨hl.symm⟩, ⟨hq⟩, ⟨(set_blk (set_blk HMr.out.blk 4 _) 7 _)⟩, ⟨hcc⟩⟩
              · have g1 : decide ((rn : Int) ≥ K) = false := decide_eq_false hge
                have g2 : decide (K ≤ (rn : Int)) = false := decide_eq_false hge
                go_wp2_with fail
                go_meet
                have ea : askR K st = st.rest := by unfold askR; rw [if_neg (show ¬ st.right = true by rw [← HRR.out]; simp), if_neg (show ¬ st.had = true by rw [← HHH.out]; simp), if_neg (by rw [← HRN.out]; omega)]
                have ec : askC K st c = { c with bu := c.bu + 1 } := by unfold askC; rw [if_neg (show ¬ st.right = true by rw [← HRR.out]; simp), if_neg (show ¬ st.had = true by rw [← HHH.out]; simp), if_neg (by rw [← HRN.out]; omega)]
                rw [ea, ec]
                have hcc : Chg (fun k => k = rb) wr ((wr.setCell ⟨rb, 4, none⟩ (.int .u64 (c.bu + 1)))) := ((Chg.refl (fun k => k = rb) wr).set_ (p := ⟨rb, 4, none⟩) (.inl rfl) _)
                exact ⟨rn, Ar, rfl, HRN, ⟨by rw [HRN.out]; exact HQ.out _ hcc⟩, ⟨(set_blk HMr.out.blk 4 _)⟩, ⟨hcc⟩⟩
        case rest =>
          obtain ⟨m, Aq, rfl, HQM, HQC, HQB, HQH⟩ := hcut
          have hgr : gx ≠ rb := fun e0 => HRBX.out e0.symm
          have hbx := HQH.out.blk LX.out hgr
          have b0 := cell_blk (j := 0) (u := .int .i64 st.x.1.a) hbx rfl
          have b1 := cell_blk (j := 1) (u := .int .i64 st.x.1.b) hbx rfl
          have b2 := cell_blk (j := 2) (u := .int .i64 st.x.1.ver) hbx rfl
          have b3 := cell_blk (j := 3) (u := .slice st.x.1.sA st.x.1.sn st.x.1.sc) hbx rfl
          have b4 := cell_blk (j := 4) (u := .slice st.x.1.dA st.x.1.dn st.x.1.dc) hbx rfl
          have b5 := cell_blk (j := 5) (u := .slice st.x.1.rA st.x.1.rn st.x.1.rc) hbx rfl
          have hml : m ≤ 2000 := by
            have h1 := askF_rest a b ver s (x0, p0) Z ⟨false, false, [], (x0, p0)⟩
            have h2 := HZ.out
            have h3 : (askR K st).length ≤ st.rest.length := by
              unfold askR
              split
              · exact Nat.le_refl _
              · split
                · exact Nat.le_refl _
                · split
                  · rw [List.length_take]; omega
                  · exact Nat.le_refl _
            have h4 := HQM.out
            have h5 : st.rest.length ≤ Z.length := by
              rw [LST2.out]
              unfold askF
              simp only [List.length_nil] at h1
              omega
            omega
          have HML := Aside0.mk hml
          clear hgr hbx hml x4 x5 x6 x7 x0_ f4 f5 f6 f7 c1
          go_wp2_with (first
            | ((with_reducible refine gate_dst (N := 162) rfl ?_); refine Kd.R_lit kRv wc.heap.size 127 ?hg (N := 162) ?hd (xs := [st.x.1]) (inner := [.int .i64 st.x.1.a, .int .i64 st.x.1.b, .int .i64 st.x.1.ver, .slice st.x.1.sA st.x.1.sn st.x.1.sc, .slice st.x.1.dA st.x.1.dn st.x.1.dc, .slice st.x.1.rA st.x.1.rn st.x.1.rc]) (ok := fun _ => True) (okp := fun _ => True) ?hr ?hp (fun _ hk => hk) trivial (Below.refl _ _) (Nat.le_refl _) (by simp) ?_; (case hd => rfl); (case hg => rfl); (case hr => first | (go_simp; done) | (go_simp; rfl)); (case hp => exact reps_rv st.x.1); intro v5 w5 ho hb _ _; have HB5 := Aside0.mk hb; have HO5 := Aside0.mk ho; clear ho hb)
            | ((with_reducible refine gate_builtin (b := .append) (xs := #[.tmp 162, .tmp 163]) rfl ?_); at_builtin; go_loud (refine Kd.R_append_rows kRv (w0 := wc) wc.heap.size rfl (.tmp 162) (.tmp 163) 80 127 (.agg #[.int .i64 0, .int .i64 0, .int .i64 0, .slice none 0 0, .slice none 0 0, .slice none 0 0]) 96 rfl Try.underlying80 infoRv rfl (by decide) (by omega) _ [st.x.1] ((askR K st).map (·.1)) _ _ _ (fun _ => True) (fun _ => False) (by rfl) (by rfl) HO5.out (Kd.C_below HQC.out HB5.out) (fun _ _ h => h) (fun _ h => h.elim) (fun _ _ => trivial) HB5.out HB5.out.size (by have := HML.out; simp only [List.length_map, List.length_cons, List.length_nil]; omega) ?_); intro v6 w6 ho hb hg hat; obtain ⟨A6, n6, rfl⟩ := Kd.R_slice ho; have hb6 := blk_step HQB.out hb; have x1 := cell_blk (j := 1) (u := .slice A L.length cap) hb6 rfl; have fr1 := free_blk hb6 1; have HB6 := Aside0.mk hb; have HO6 := Aside0.mk ho; have HBL := Aside0.mk hb6; clear ho hb hg hat hb6))
          go_ret
          have hst := LST2.out
          have hmem := askF_mem a b ver s (x0, p0) Z ⟨false, false, [], (x0, p0)⟩
          have hst2 : st = Z.foldl (askStep a b ver s) ⟨false, false, [], (x0, p0)⟩ := hst
          rw [← hst2] at hmem
          have hend := ask_end (F := F) HM.out HOWN.out HF.out HBC.out (Nat.le_trans HB1.out.size HGX.out) HGXC.out LC.out HQH.out HB6.out HBL.out HO6.out HMEAN.out hmem.1 (rest := askR K st) (fun z hz => by
            have h1 : z ∈ st.rest := by
              unfold askR at hz
              split at hz
              · exact hz
              · split at hz
                · exact hz
                · split at hz
                  · exact List.mem_of_mem_take hz
                  · exact hz
            rcases hmem.2 z h1 with h2 | h2
            · exact absurd h2 (by simp)
            · exact h2)
          have hlen : ([st.x.1] ++ (askR K st).map (·.1)).length = (askR K st).length + 1 := by simp
          refine ⟨x0, ?_, ?_⟩
          · rw [← HP0.out, ← hst, ← HRR.out]
            rfl
          · rw [← HP0.out, ← hst]
            rw [hlen] at hend
            exact ⟨_, hend⟩
end Go.Proofs.Ytgcfcemgeppkmaa.P
