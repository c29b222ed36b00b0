/-
  shelf.Get. shelf.New, shelf.Keys, shelf.Count, shelf.Flush; Get where it refuses. The laws of layer 19: what they all end with. herdsmanlaw19.ShelfNone: what is none does nothing.
-/
import Derived.Test.YtgcfcemgeppkmaaXShelf
import Derived.Test.YtgcfcemgeppkmaaXMayA
namespace Go.Proofs.Ytgcfcemgeppkmaa.P
open Go.RowKit Go.Proofs.YtgcfcemgeppkmaaW.PrintWords Go.Proofs.YtgcfcemgeppkmaaW.PrintLast Go.Proofs.YtgcfcemgeppkmaaW.PrintMore
open Go.Proofs.Ytgcfcemgeppkmaa.Ord Go.Proofs.Ytgcfcemgeppkmaa.Dist
set_option linter.unusedVariables false
set_option linter.unusedSimpArgs false
variable {w w' : World} {own : Nat → Prop} {fv : Value} {kvs : List Kv} {kps : List Kept} {sb lb mb : Nat} {k : Int} {sv : Value} {seats : List Seat} {nw od : Int} {D : DataW Unit} {ord : List Nat} {c : Cnt}
theorem infoKept : (Try.prog.info? 120).map (fun i => (i.zero, i.size, i.bytes)) = some (some (.agg #[.int .i64 0, .slice none 0 0, .slice none 0 0, .slice none 0 0]), 4, 80) := by kernel_rfl
/-- What Get is handed: a tile, seeds, none of them the shelf's. -/
structure Handed3 (w : World) (own : Nat → Prop) (At : Option Addr) (ct : Nat) (C : List Int) (As : Option Addr) (cs : Nat) (s : List Seed) : Prop where
  tile : Kd.C (Kd.int .u8) w At C.length C
  tcap : C.length ≤ ct
  seeds : Kd.C k25 w As s.length s
  scap : s.length ≤ cs
  farT : ∀ ad, At = some ad → 0 < C.length → ¬ own ad.block
  farS : ∀ ad, As = some ad → 0 < s.length → ¬ own ad.block
  bytes : ∀ x ∈ C, 0 ≤ x ∧ x ≤ 255
  tlen : C.length ≤ 1000
  slen : s.length ≤ 1000
theorem Handed3.chg {At : Option Addr} {ct : Nat} {C : List Int} {As : Option Addr} {cs : Nat} {s : List Seed} (h : Handed3 w own At ct C As cs s) (hc : Chg own w w') : Handed3 w' own At ct C As cs s :=
  { h with tile := flat_int h.tile hc h.farT, seeds := flat_seed h.seeds hc h.farS }
/-- The shelf's own blocks, and the new ones. -/
def ownN (own : Nat → Prop) (a b : Nat) : Nat → Prop := fun k => own k ∨ (a ≤ k ∧ k < b)
/-- What Get tells, and what it leaves, by what is meant alone. -/
structure GotS (n : Nat) (k : Int) (ks : Nat → Int × Int) (ord : List Nat) (kps : List Kept) (c : Cnt) (a b ver : Int) (s : List Seed) (Dst Drs : List Int) (n' : Nat) (ks' : Nat → Int × Int) (ord' : List Nat) (kps' : List Kept) (c' : Cnt) (dist dirs : List Int) (slot : Nat) (had out : Bool) : Prop where
  used : Used n k ks ord a b slot had out n' ks' ord'
  hit : had = true → (kps.getD slot default).ver = ver → (kps.getD slot default).seeds = s → dist = (kps.getD slot default).dist ∧ dirs = (kps.getD slot default).dirs ∧ (∀ j, j < n → kps'.getD j default = kps.getD j default) ∧ c' = { c with hi := c.hi + 1 }
  build : ¬ (had = true ∧ (kps.getD slot default).ver = ver ∧ (kps.getD slot default).seeds = s) → dist = Dst ∧ dirs = Drs ∧ kps'.getD slot default = ⟨ver, s, Dst, Drs⟩ ∧ (∀ j, j < n → j ≠ slot → kps'.getD j default = kps.getD j default) ∧ c' = { c with st := c.st + (if had then 1 else 0), ev := c.ev + (if out then 1 else 0), bu := c.bu + 1 }
/-- The shelf within a call of Get: who is written is the shelf's own, or new. -/
structure GS (own : Nat → Prop) (w2 wd : World) (sb lb : Nat) (k : Int) (sv : Value) (mb : Nat) (seats : List Seat) (nw od : Int) (D : DataW Unit) (ord : List Nat) (fv : Value) (kvs : List Kv) (kps : List Kept) (c : Cnt) : Prop where
  m : ShelfM wd (ownN own w2.heap.size wd.heap.size) sb lb k sv mb seats nw od D ord fv kvs kps c
  chg : Chg own w2 wd
  osb : own sb
theorem ownN_mono {own : Nat → Prop} {a b b' : Nat} (h : b ≤ b') (x : Nat) (hx : ownN own a b x) : ownN own a b' x := hx.imp id (fun h1 => ⟨h1.1, Nat.lt_of_lt_of_le h1.2 h⟩)
variable {w2 wd : World}
theorem GS.below (h : GS own w2 wd sb lb k sv mb seats nw od D ord fv kvs kps c) (hb : Below wd.heap.size wd w') : GS own w2 w' sb lb k sv mb seats nw od D ord fv kvs kps c :=
  ⟨(h.m.below hb).mono (ownN_mono hb.size), h.chg.trans (Chg.of_below hb own), h.osb⟩
theorem GS.count {c' : Cnt} {j : Nat} {x : Int} (h : GS own w2 wd sb lb k sv mb seats nw od D ord fv kvs kps c) (he : shCells lb fv c' = (shCells lb fv c).setIfInBounds j (.int .u64 (x + 1))) (q : Nat) : GS own w2 ((wd.drewN q).setCell ⟨sb, j, none⟩ (.int .u64 (x + 1))) sb lb k sv mb seats nw od D ord fv kvs kps c' := by
  have h1 := h.below (pw_below_drewN (Below.refl _ _) q)
  have hsz := ((Chg.refl (fun _ => True) (wd.drewN q)).set_ (p := ⟨sb, j, none⟩) (.inl trivial) (.int .u64 (x + 1))).size
  exact ⟨(h1.m.put he rfl).mono (ownN_mono hsz), h1.chg.set_ (.inl h.osb) _, h.osb⟩
theorem fieldF_ok {W H : Int} {C : List Int} {l : List Seed} (hb : ∀ x ∈ C, 0 ≤ x ∧ x ≤ 255) (hs : SeedsOk W H C l) (hl : l.length ≤ 1000000) : fieldF W H C l = some (distOf W C l, dirsOf W H C l, 0) := by
  unfold fieldF
  rw [if_pos hs, if_pos ⟨hb, hl⟩]
theorem getD_set_same {α : Type} (l : List α) {i : Nat} (x d : α) (h : i < l.length) : (l.set i x).getD i d = x := by simp [List.getD_eq_getElem?_getD, h]
theorem getD_set_other {α : Type} (l : List α) {i j : Nat} (x d : α) (h : j ≠ i) : (l.set i x).getD j d = l.getD j d := by
  simp only [List.getD_eq_getElem?_getD]
  rw [List.getElem?_set_ne (fun e => h e.symm)]
theorem GS.ends {w w2 w7 w8 : World} {g2 : Nat} {v1 v2 : Value} {l1 l2 : List Int} {cs : Array Value} (h : GS own w2 w7 sb lb k sv mb seats nw od D ord fv kvs kps c) (hB : Below w.heap.size w w2) (hg : ¬ own g2 ∧ w.heap.size ≤ g2 ∧ g2 < w2.heap.size) (hb : Below w7.heap.size w7 w8) (hx : w8.heap[g2]? = some (.cells cs 60 (0, 0))) (h1 : RowI w8 w7.heap.size (fun _ => True) v1 l1) (h2 : RowI w8 w7.heap.size (fun _ => True) v2 l2) :
    ShelfM ((w8.setCell ⟨g2, 0, none⟩ v1).setCell ⟨g2, 1, none⟩ v2) (ownN own w.heap.size w7.heap.size) sb lb k sv mb seats nw od D ord fv kvs kps c ∧ w7.heap.size ≤ ((w8.setCell ⟨g2, 0, none⟩ v1).setCell ⟨g2, 1, none⟩ v2).heap.size ∧ w.heap.size ≤ w7.heap.size ∧ Chg own w ((w8.setCell ⟨g2, 0, none⟩ v1).setCell ⟨g2, 1, none⟩ v2) ∧ RowI ((w8.setCell ⟨g2, 0, none⟩ v1).setCell ⟨g2, 1, none⟩ v2) w7.heap.size (fun _ => True) v1 l1 ∧ RowI ((w8.setCell ⟨g2, 0, none⟩ v1).setCell ⟨g2, 1, none⟩ v2) w7.heap.size (fun _ => True) v2 l2 := by
  have hc : Chg (fun b => b = g2) w7 ((w8.setCell ⟨g2, 0, none⟩ v1).setCell ⟨g2, 1, none⟩ v2) := ((Chg.of_below hb (fun b => b = g2)).set_ (.inl rfl) _).set_ (.inl rfl) _
  have s1 := hB.size
  have s2 := h.chg.size
  refine ⟨(h.m.chg hc ?_).mono ?_, hc.size, Nat.le_trans s1 s2, ?_, R_set (R_set h1 hx (by decide) 0 _) (set_blk hx 0 _) (by decide) 1 _, R_set (R_set h2 hx (by decide) 0 _) (set_blk hx 0 _) (by decide) 1 _⟩
  · rintro b (hb | hb) e
    · exact hg.1 (e ▸ hb)
    · have e' : b = g2 := e
      omega
  · rintro b (hb | hb)
    · exact .inl hb
    · exact .inr ⟨by omega, hb.2⟩
  · exact ((Chg.of_below hB own).trans (h.chg.trans ((Chg.of_below hb own)))).set_ (.inr hg.2.1) _ |>.set_ (.inr hg.2.1) _
set_option maxRecDepth 100000 in
set_option maxHeartbeats 4000000 in
theorem get_calls (h : ShelfM w own sb lb k sv mb seats nw od D ord fv kvs kps c) (hown : ∀ b, own b → b < w.heap.size) (hlen : kvs.length = seats.length) {a b ver : Int} (ha : W64 a) (hb : W64 b) (hsm : seats.length ≤ 100000) (cok : c.ok) {W H : Int} {At : Option Addr} {ct : Nat} {C : List Int} {As : Option Addr} {cs : Nat} {s : List Seed} (hA : Handed3 w own At ct C As cs s) (hok : SeedsOk W H C s) :
    Calls Try.prog 65 #[.pointer (some ⟨sb, 0, none⟩), .int .i64 a, .int .i64 b, .int .i64 ver, .agg #[.int .i64 W, .int .i64 H, .slice At C.length ct], .slice As s.length cs] w fun e w' => ∃ (dist dirs : List Int) (Ad : Option Addr) (cd : Nat) (Ae : Option Addr) (ce : Nat), e = .returned (.tuple #[.agg #[.slice Ad dist.length cd, .slice Ae dirs.length ce], .int .i64 0]) ∧ ∃ sv' s' nw' od' D' ord' fv' kvs' kps' c' N slot had out, ShelfM w' (ownN own w.heap.size N) sb lb k sv' mb s' nw' od' D' ord' fv' kvs' kps' c' ∧ N ≤ w'.heap.size ∧ w.heap.size ≤ N ∧ kvs'.length = s'.length ∧ Chg own w w' ∧ RowI w' N (fun _ => True) (.slice Ad dist.length cd) dist ∧ RowI w' N (fun _ => True) (.slice Ae dirs.length ce) dirs ∧ GotS seats.length k (keyF seats) ord kps c a b ver s (distOf W C s) (dirsOf W H C s) s'.length (keyF s') ord' kps' c' dist dirs slot had out := by
  have HM := Aside0.mk h
  have HA := Aside0.mk hA
  have HOWN := Aside0.mk hown
  have HLEN := Aside0.mk hlen
  have HWF := Aside0.mk (And.intro ha hb)
  have HSM := Aside0.mk hsm
  have COK := Aside0.mk cok
  have HOK := Aside0.mk hok
  have hmay : seedsMayF W H C s = some true := by unfold seedsMayF; simp [hok]
  have HMAY := Aside0.mk hmay
  clear h hA hown hlen ha hb hsm cok hok hmay
  go_enter Try.func65, Try.ntmps65
  go_upto_region 1 with (first
    | ((with_reducible refine gate_dst (N := 10) rfl ?_); refine box_event ?hg (N := 10) ?hd (cs := #[.int .i64 W, .int .i64 H, .slice At C.length ct]) (t := 35) ?hr ?_; (case hd => rfl); (case hg => rfl); (case hr => first | (go_simp; done) | (go_simp; rfl)); intro g1 hg w1 hbox hb; have HX1 := Aside0.mk hbox; have HB1 := Aside0.mk hb; have HG1 := Aside0.mk hg; clear hbox hb hg)
    | ((with_reducible refine gate_dst (N := 12) rfl ?_); refine box_event ?hg (N := 12) ?hd (cs := #[.slice none 0 0, .slice none 0 0]) (t := 60) ?hr ?_; (case hd => rfl); (case hg => rfl); (case hr => first | (go_simp; done) | (go_simp; rfl)); intro g2 hg w2 hbox hb; have HX2 := Aside0.mk hbox; have HB2 := Aside0.mk hb; have HG2 := Aside0.mk hg; clear hbox hb hg))
  have hB := below_step HB1.out HB2.out
  have HB := Aside0.mk hB
  have HX := Aside0.mk ((HB2.out.block g1 (blk_lt HX1.out)).trans HX1.out)
  have HM2 := Aside0.mk (HM.out.below hB)
  have HA2 := Aside0.mk (HA.out.chg (Chg.of_below hB own))
  have HF : Aside0 (¬ own g1 ∧ ¬ own g2 ∧ g1 ≠ g2 ∧ w.heap.size ≤ g1 ∧ w.heap.size ≤ g2) := ⟨by
    have h1 := HG1.out
    have h2 := HG2.out
    have h3 := blk_lt HX1.out
    have h4 := HB1.out.size
    exact ⟨fun e => by have := HOWN.out _ e; omega, fun e => by have := HOWN.out _ e; omega, by omega, by omega, by omega⟩⟩
  clear hB HX1 HB1 HB2 HG1 HG2
  have t0 := cell_blk (j := 0) (u := .int .i64 W) HX.out rfl
  have t1 := cell_blk (j := 1) (u := .int .i64 H) HX.out rfl
  have t2 := cell_blk (j := 2) (u := .slice At C.length ct) HX.out rfl
  go_upto_region 3 with (go_at_call 39; refine (seedsMay_calls W H At ct C As cs s true _ HA2.out.tile HA2.out.tcap HA2.out.seeds HA2.out.scap HMAY.out).mono ?_; rintro e w3 ⟨rfl, hb⟩; have HB3 := Aside0.mk hb; clear hb t0 t1 t2)
  have HM3 := Aside0.mk (HM2.out.below HB3.out)
  have hp := cell_blk (j := 0) (u := .pointer (some ⟨lb, 0, none⟩)) HM3.out.blk rfl
  go_upto_region 4 with (go_at_call 98; refine (use_calls HM3.out.lru HWF.out.1 HWF.out.2 (by have := HSM.out; omega)).mono ?_; rintro e w4 ⟨slot, had, out, rfl, sv4, s4, nw4, od4, D4, ord4, hl4, hu4, hc4, ho4⟩; have HL4 := Aside0.mk hl4; have HU4 := Aside0.mk hu4; have HC4 := Aside0.mk hc4; have HO4 := Aside0.mk ho4; clear hl4 hu4 hc4 ho4 hp)
  have HM4 : Aside0 (ShelfM w4 (ownN own w2.heap.size w4.heap.size) sb lb k sv4 mb s4 nw4 od4 D4 ord4 fv kvs kps c) := ⟨HM3.out.turn HL4.out HC4.out (fun b hb => .inl hb) (fun b hb => by
    rcases HO4.out b hb with h | h
    · exact .inl (HM3.out.ownL b h)
    · exact .inr ⟨Nat.le_trans HB3.out.size h, HL4.out.m.lt hb⟩)⟩
  have HC24 : Aside0 (Chg own w2 w4) := ⟨(Chg.of_below HB3.out own).trans (HC4.out.mono (fun b hb => HM3.out.ownL b hb))⟩
  clear HM3 HC4 HO4 HL4 HB3
  obtain ⟨A4, n4, e4⟩ := HM4.out.flds.slice
  have hb4 := HM4.out.blk
  have f1 := cell_blk (j := 1) (u := fv) hb4 rfl
  have fz := free_blk hb4 1
  rw [e4] at f1
  have HE4 := Aside0.mk e4
  clear hb4 e4
  go_upto_if 46 with (fail)
  go_cut [] (fun wc => ∃ (fv5 : Value) (kvs5 : List Kv) (kps5 : List Kept), Aside0 (ShelfM wc (ownN own w2.heap.size wc.heap.size) sb lb k sv4 mb s4 nw4 od4 D4 ord4 fv5 kvs5 kps5 c) ∧ Aside0 (Chg own w2 wc) ∧ Aside0 (slot < kvs5.length ∧ kvs5.length = s4.length ∧ (∀ j, j < kps.length → kps5.getD j default = kps.getD j default)))
  case first =>
    by_cases hs : slot = kvs.length
    · have hfr : had = false ∧ s4.length = seats.length + 1 := by
        have hu := HU4.out
        have hl := HLEN.out
        cases had with
        | true => have := hu.hit rfl; omega
        | false =>
          by_cases hk : (seats.length : Int) < k
          · exact ⟨rfl, (hu.fresh rfl hk).2.2.1⟩
          · have := hu.evict rfl hk; omega
      have HFR := Aside0.mk hfr
      subst hs
      clear hfr
      have hlen2 : kvs.length ≤ 100000 := by rw [HLEN.out]; exact HSM.out
      have HL2 := Aside0.mk hlen2
      clear hlen2
      go_wp2_with (first
        | ((with_reducible refine gate_builtin (b := .append) (xs := #[.tmp 51, .tmp 53]) rfl ?_); at_builtin; go_loud (refine print_append_cells (w0 := w4) 0 rfl (.tmp 51) (.tmp 53) 114 120 (.agg #[.int .i64 0, .slice none 0 0, .slice none 0 0, .slice none 0 0]) 4 80 rfl Try.underlying114 infoKept rfl (by decide) (by decide) fv kvs.length (kvs.flatMap encK) [.int .i64 0, .slice none 0 0, .slice none 0 0, .slice none 0 0] ?aS rfl rfl (by simp [Value.oneCell']) HM4.out.flds.owns (Below.refl 0 w4) (Nat.zero_le _) ?aL ?_); (case aL => have := HL2.out; omega); (case aS => rw [HE4.out]; rfl); intro v5 w5 ho hb hg hat; have ho' : FieldsM w5 v5 (kvs ++ [default]) := FieldsM.of_owns (l := kvs ++ [default]) (inner := kvs.flatMap encK ++ [.int .i64 0, .slice none 0 0, .slice none 0 0, .slice none 0 0]) (by simpa using ho) (by simp; rfl); obtain ⟨A5, n5, e5⟩ := ho'.slice; have hg' := hg; subst e5; have HO5 := Aside0.mk ho'; have HG5 := Aside0.mk hg; have HT5 := Aside0.mk hat; have hb5 := (hg'.block sb (blk_lt HM4.out.blk) (fun e => HM4.out.apart.2.2 e.symm)).trans HM4.out.blk; have f15 := cell_blk (j := 1) (u := fv) hb5 rfl; have fz5 := free_blk hb5 1; clear ho ho' hb hg hg' hat hb5))
      go_meet
      have hsz : w4.heap.size ≤ w5.heap.size := HG5.out.size
      have hM := HM4.out.grow HG5.out HO5.out (own' := ownN own w2.heap.size w5.heap.size) (fun b hb => by
        rcases hb with hb | hb
        · exact .inl hb
        · exact .inr ⟨hb.1, by omega⟩) (fun b hb => by
        have hlt := (HO5.out.lt hb).1
        rcases HT5.out with h | ⟨b', h, hle⟩
        · rcases HM4.out.ownF b (h ▸ hb) with h1 | h1
          · exact .inl h1
          · exact .inr ⟨h1.1, hlt⟩
        · have : b' = b := by rw [h] at hb; injection hb
          have h24 := HC24.out.size
          exact .inr ⟨by omega, hlt⟩)
      have hl5 : kvs.length + 1 = (kvs ++ [(default : Kv)]).length := by simp
      rw [hl5]
      refine ⟨.slice A5 (kvs ++ [default]).length n5, kvs ++ [default], kps ++ [default], ⟨?_⟩, ⟨?_⟩, ⟨by simp, by rw [HFR.out.2, ← HLEN.out]; simp, fun j hj => by simp only [List.getD_eq_getElem?_getD]; rw [List.getElem?_append_left hj]⟩⟩
      · refine hM.mono (fun b hb => ?_)
        rcases hb with hb | hb
        · exact .inl hb
        · have := ((Chg.refl (fun _ => True) w5).set_ (p := ⟨sb, 1, none⟩) (.inl trivial) (.slice A5 (kvs ++ [default]).length n5)).size
          exact .inr ⟨hb.1, Nat.lt_of_lt_of_le hb.2 this⟩
      · refine (HC24.out.then_ (Chg.of_grown HG5.out (S := fun b => fv.ownBlock = some b) (fun k hk => hk)) (fun b hb => ?_)).set_ (.inl HM2.out.ownB) _
        rcases HM4.out.ownF b hb with h | h
        · exact .inl h
        · exact .inr h.1
    · have hne : ((slot : Int) == (kvs.length : Int)) = false := beq_eq_false_iff_ne.2 (by omega)
      have hfr : slot < kvs.length ∧ kvs.length = s4.length := by
        have hu := HU4.out
        have hl := HLEN.out
        cases had with
        | true => have := hu.hit rfl; omega
        | false =>
          by_cases hk : (seats.length : Int) < k
          · have := hu.fresh rfl hk; omega
          · have := hu.evict rfl hk; omega
      go_wp2_with fail
      go_meet
      exact ⟨fv, kvs, kps, HM4, HC24, ⟨hfr.1, hfr.2, fun j hj => rfl⟩⟩
  case rest =>
    obtain ⟨fv5, kvs5, kps5, HM5, HC5, HP5⟩ := hcut
    generalize wc = wv at *
    have HG5 : Aside0 (GS own w2 wv sb lb k sv4 mb s4 nw4 od4 D4 ord4 fv5 kvs5 kps5 c) := ⟨HM5.out, HC5.out, HM2.out.ownB⟩
    clear HM5 HC5 HM4 HC24 HE4 f1 fz HM
    obtain ⟨g, cap, e5, p0, p1, p2, p3, pf⟩ := HG5.out.m.flds.cells HP5.out.1
    have hky := HG5.out.m.kept slot HP5.out.1
    have hkv : kvs5.getD slot default = kvs5[slot]'HP5.out.1 := by simp [List.getD_eq_getElem?_getD, List.getElem?_eq_getElem HP5.out.1]
    rw [hkv] at hky
    obtain ⟨kv, hkv2⟩ : ∃ kv, kv = kvs5[slot]'HP5.out.1 := ⟨_, rfl⟩
    obtain ⟨ky, hky2⟩ : ∃ ky, ky = kps5.getD slot default := ⟨_, rfl⟩
    rw [← hkv2, ← hky2] at hky
    rw [← hkv2] at p0 p1 p2 p3
    obtain ⟨A1, m1, E1, hm1, hC1⟩ := Kd.R_reads hky.seeds
    obtain ⟨A2, m2, E2, hm2, hC2⟩ := Kd.R_reads hky.dist
    obtain ⟨A3, m3, E3, hm3, hC3⟩ := Kd.R_reads hky.dirs
    have HK := Aside0.mk hky
    have HKV := Aside0.mk (And.intro hkv2 hky2)
    have HC1 := Aside0.mk (And.intro hC1 hm1)
    have HC2 := Aside0.mk (And.intro hC2 hm2)
    have HC3 := Aside0.mk (And.intro hC3 hm3)
    have hver := hky.ver
    rw [E1] at p1
    rw [E2] at p2
    rw [E3] at p3
    rw [hver] at p0
    have HE5 := Aside0.mk e5
    have f1 := cell_blk (j := 1) (u := fv5) HG5.out.m.blk rfl
    rw [e5] at f1
    have hsi : (slot : Int) < (kvs5.length : Int) := by have := HP5.out.1; omega
    clear hkv hkv2 hky2 hky hC1 hm1 hC2 hm2 hC3 hm3 hver e5 pf
    go_upto_region 7 with (fail)
    go_cut [79] (fun v79 wd => v79 = .bool (had && ((ky.ver == ver) && decide (ky.seeds = s))) ∧ Aside0 (∃ q, wd = wv.drewN q))
    case first =>
      have hA5 := HA2.out.chg HG5.out.chg
      have hsame := same_some78 ky.seeds s (by have := HK.out.len.1; omega) 2000 (by have := HK.out.len.1; omega)
      have HSAME := Aside0.mk hsame
      have HA5 := Aside0.mk hA5
      clear hsame hA5
      cases had with
      | false =>
        go_wp2_with fail
        go_meet
        exact ⟨by simp, ⟨0, rfl⟩⟩
      | true =>
        by_cases hv : ky.ver = ver
        · have hv1 : (ky.ver == ver) = true := beq_iff_eq.2 hv
          clear hv
          go_wp2_with (go_at_call 35; refine (seeds_Same.calls 2000 A1 m1 ky.seeds As cs s _ _ HC1.out.1 HC1.out.2 HA5.out.seeds HA5.out.scap HSAME.out).mono ?_; rintro e w6 ⟨rfl, ⟨q, rfl⟩⟩)
          go_meet
          exact ⟨by rw [hv1]; simp, ⟨_, rfl⟩⟩
        · have hv1 : (ky.ver == ver) = false := beq_eq_false_iff_ne.2 hv
          go_wp2_with fail
          go_meet
          exact ⟨by simp [hv1], ⟨0, rfl⟩⟩
    case rest =>
      obtain ⟨rfl, HD⟩ := hcut
      obtain ⟨q0, hq0⟩ := HD.out
      have HG6 : Aside0 (GS own w2 wc sb lb k sv4 mb s4 nw4 od4 D4 ord4 fv5 kvs5 kps5 c) := ⟨by rw [hq0]; exact HG5.out.below (pw_below_drewN (Below.refl _ _) q0)⟩
      have hpp : ∀ o, wc.cell? ⟨g, o, none⟩ = wv.cell? ⟨g, o, none⟩ := fun o => by rw [hq0, World.cell?_drewN]
      rw [← hpp] at p0 p1 p2 p3
      have hgs : g ≠ sb := fun e => HG5.out.m.apart.2.2 (by rw [HE5.out, e]; rfl)
      have HGS := Aside0.mk hgs
      have HKEEP := Aside0.mk (fun (wx : World) (c' : Cnt) (hx : GS own w2 wx sb lb k sv4 mb s4 nw4 od4 D4 ord4 fv5 kvs5 kps5 c') => (show KeptM wx (ownN own w2.heap.size wx.heap.size) kv ky by
        have := hx.m.kept slot HP5.out.1
        rw [← HKV.out.2] at this
        rw [HKV.out.1]
        simpa [List.getD_eq_getElem?_getD, List.getElem?_eq_getElem HP5.out.1] using this))
      have HE := Aside0.mk (And.intro E1 (And.intro E2 E3))
      clear hq0 HD HG5 hpp hgs HC1 HC2 HC3 f1 E1 E2 E3
      have hb6 := HG6.out.m.blk
      have x5 := cell_blk (j := 5) (u := .int .u64 c.hi) hb6 rfl
      have fr5 := free_blk hb6 5
      have hchi : 0 ≤ c.hi ∧ c.hi ≤ 1000000000 := by have := COK.out; unfold Cnt.ok at this; omega
      have HCHI := Aside0.mk hchi
      clear hb6 hchi
      by_cases hhit : (had && ((ky.ver == ver) && decide (ky.seeds = s))) = true
      · rw [hhit]
        have HHIT := Aside0.mk hhit
        clear hhit
        go_upto_region 9 with (go_at_call 99; refine (one_calls sb 5 c.hi _ x5 fr5 HCHI.out).mono ?_; rintro e w7 ⟨rfl, q, rfl⟩)
        have HG7 : Aside0 (GS own w2 ((wc.drewN q).setCell ⟨sb, 5, none⟩ (.int .u64 (c.hi + 1))) sb lb k sv4 mb s4 nw4 od4 D4 ord4 fv5 kvs5 kps5 { c with hi := c.hi + 1 }) := ⟨HG6.out.count rfl q⟩
        have r2 : ((wc.drewN q).setCell ⟨sb, 5, none⟩ (.int .u64 (c.hi + 1))).cell? ⟨g, slot * 4 + 2, none⟩ = some (.slice A2 ky.dist.length m2) := by rw [cfar HGS.out, World.cell?_drewN]; exact p2
        have r3 : ((wc.drewN q).setCell ⟨sb, 5, none⟩ (.int .u64 (c.hi + 1))).cell? ⟨g, slot * 4 + 3, none⟩ = some (.slice A3 ky.dirs.length m3) := by rw [cfar HGS.out, World.cell?_drewN]; exact p3
        generalize (wc.drewN q).setCell ⟨sb, 5, none⟩ (.int .u64 (c.hi + 1)) = w7 at *
        have hk7 := HKEEP.out _ _ HG7.out
        have hd7 := hk7.dist
        have hr7 := hk7.dirs
        rw [HE.out.2.1] at hd7
        rw [HE.out.2.2] at hr7
        have HD7 := Aside0.mk (R_C hd7).1
        have HR7 := Aside0.mk (R_C hr7).1
        clear hk7 hd7 hr7 x5 fr5 p0 p1 p2 p3
        have hx7 := HG7.out.chg.blk HX2.out HF.out.2.1
        have HX7 := Aside0.mk hx7
        clear hx7
        go_wp2_with (go_at_call 100; refine (own_calls A2 m2 ky.dist A3 m3 ky.dirs _ HD7.out HR7.out (by have := HK.out.len; omega) (by have := HK.out.len; omega)).mono ?_; rintro e w8 ⟨B1, n1, B2, n2, rfl, ho1, ho2, hb⟩; have HO1 := Aside0.mk ho1; have HO2 := Aside0.mk ho2; have HB8 := Aside0.mk hb; have hx8 := (hb.block g2 (blk_lt HX7.out)).trans HX7.out; have HX8 := Aside0.mk hx8; have z0 := cell_blk (j := 0) (u := .slice none 0 0) hx8 rfl; have z1 := cell_blk (j := 1) (u := .slice none 0 0) hx8 rfl; have fg0 := free_blk hx8 0; have fg1 := free_blk hx8 1; clear hx8 ho1 ho2 hb)
        (try simp only [Exit.inBlock, Exit.then])
        have hx9 := set_blk (set_blk HX8.out 0 (.slice B1 ky.dist.length n1)) 1 (.slice B2 ky.dirs.length n2)
        refine bodyPost_ret (results_ct rfl _ _ g2 60 #[.slice B1 ky.dist.length n1, .slice B2 ky.dirs.length n2] (0, 0) _ rfl hx9 Try.underlying60 rfl (by kernel_rfl)) rfl ?_
        obtain ⟨m1_, m2_, m3_, m4_, m5_, m6_⟩ := HG7.out.ends HB.out ⟨HF.out.2.1, HF.out.2.2.2.2, blk_lt HX2.out⟩ HB8.out HX8.out HO1.out HO2.out
        have hh := HHIT.out
        rw [Bool.and_eq_true, Bool.and_eq_true] at hh
        obtain ⟨hh1, hh2, hh3⟩ := hh
        have hhv : ky.ver = ver := beq_iff_eq.1 hh2
        have hhs : ky.seeds = s := of_decide_eq_true hh3
        have hsl := (HU4.out.hit hh1).1
        have hkl : kps.length = seats.length := HM2.out.klen.trans HLEN.out
        have hkk : ky = kps.getD slot default := by rw [HKV.out.2]; exact HP5.out.2.2 slot (by omega)
        refine ⟨ky.dist, ky.dirs, B1, n1, B2, n2, rfl, sv4, s4, nw4, od4, D4, ord4, fv5, kvs5, kps5, _, _, slot, had, out, m1_, m2_, m3_, HP5.out.2.1, m4_, m5_, m6_, HU4.out, fun _ _ _ => ⟨by rw [hkk], by rw [hkk], fun j hj => HP5.out.2.2 j (by omega), rfl⟩, fun hn => absurd ⟨hh1, by rw [← hkk]; exact hhv, by rw [← hkk]; exact hhs⟩ hn⟩
      · rw [Bool.not_eq_true] at hhit
        rw [hhit]
        have HHIT := Aside0.mk hhit
        clear hhit p0 p1 p2 p3 x5 fr5
        have hb6 := HG6.out.m.blk
        have x6 := cell_blk (j := 6) (u := .int .u64 c.st) hb6 rfl
        have fr6 := free_blk hb6 6
        have hcst : 0 ≤ c.st ∧ c.st ≤ 1000000000 := by have := COK.out; unfold Cnt.ok at this; omega
        have HCST := Aside0.mk hcst
        clear hb6 hcst
        go_upto_if 90 with (fail)
        go_cut [] (fun wd => Aside0 (GS own w2 wd sb lb k sv4 mb s4 nw4 od4 D4 ord4 fv5 kvs5 kps5 { c with st := c.st + (if had then 1 else 0) }))
        case first =>
          cases had with
          | true =>
            go_wp2_with (go_at_call 99; refine (one_calls sb 6 c.st _ x6 fr6 HCST.out).mono ?_; rintro e w7 ⟨rfl, q, rfl⟩)
            go_meet
            exact ⟨HG6.out.count rfl q⟩
          | false =>
            go_wp2_with fail
            go_meet
            rw [show ({ c with st := c.st + (if false = true then 1 else 0) } : Cnt) = c from by cases c; simp]
            exact HG6
        case rest =>
          clear HG6 x6 fr6
          have HG7 := hcut
          clear hcut
          obtain ⟨c1, hc1⟩ : ∃ c1 : Cnt, c1 = { c with st := c.st + (if had then 1 else 0) } := ⟨_, rfl⟩
          rw [← hc1] at HG7
          have hce : c1.ev = c.ev ∧ c1.bu = c.bu ∧ c1.hi = c.hi := by rw [hc1]; exact ⟨rfl, rfl, rfl⟩
          have HC1 := Aside0.mk hc1
          have HCE := Aside0.mk hce
          clear hc1 hce
          have hb7 := HG7.out.m.blk
          have x7 := cell_blk (j := 7) (u := .int .u64 c1.ev) hb7 rfl
          have fr7 := free_blk hb7 7
          have hcev : 0 ≤ c1.ev ∧ c1.ev ≤ 1000000000 := by have := COK.out; have := HCE.out; unfold Cnt.ok at *; omega
          have HCEV := Aside0.mk hcev
          clear hb7 hcev
          go_upto_if 96 with (fail)
          go_cut [] (fun wd => Aside0 (GS own w2 wd sb lb k sv4 mb s4 nw4 od4 D4 ord4 fv5 kvs5 kps5 { c1 with ev := c1.ev + (if out then 1 else 0) }))
          case first =>
            cases out with
            | true =>
              go_wp2_with (go_at_call 99; refine (one_calls sb 7 c1.ev _ x7 fr7 HCEV.out).mono ?_; rintro e w7 ⟨rfl, q, rfl⟩)
              go_meet
              exact ⟨HG7.out.count rfl q⟩
            | false =>
              go_wp2_with fail
              go_meet
              rw [show ({ c1 with ev := c1.ev + (if false = true then 1 else 0) } : Cnt) = c1 from by cases c1; simp]
              exact HG7
          case rest =>
            clear HG7 x7 fr7
            have HG8 := hcut
            clear hcut
            obtain ⟨c2, hc2⟩ : ∃ c2 : Cnt, c2 = { c1 with ev := c1.ev + (if out then 1 else 0) } := ⟨_, rfl⟩
            rw [← hc2] at HG8
            have hce : c2.bu = c.bu := by rw [hc2]; exact HCE.out.2.1
            have HC2 := Aside0.mk hc2
            have HCE2 := Aside0.mk hce
            clear hc2 hce
            have hb8 := HG8.out.m.blk
            have x8 := cell_blk (j := 4) (u := .int .u64 c2.bu) hb8 rfl
            have fr8 := free_blk hb8 4
            have hcbu : 0 ≤ c2.bu ∧ c2.bu ≤ 1000000000 := by have := COK.out; have := HCE2.out; unfold Cnt.ok at *; omega
            have HCBU := Aside0.mk hcbu
            clear hb8 hcbu
            go_upto_region 15 with (go_at_call 99; refine (one_calls sb 4 c2.bu _ x8 fr8 HCBU.out).mono ?_; rintro e w7 ⟨rfl, q, rfl⟩)
            have HG9 : Aside0 (GS own w2 ((wc.drewN q).setCell ⟨sb, 4, none⟩ (.int .u64 (c2.bu + 1))) sb lb k sv4 mb s4 nw4 od4 D4 ord4 fv5 kvs5 kps5 { c2 with bu := c2.bu + 1 }) := ⟨HG8.out.count rfl q⟩
            generalize (wc.drewN q).setCell ⟨sb, 4, none⟩ (.int .u64 (c2.bu + 1)) = w9 at *
            clear HG8 x8 fr8
            have hA9 := HA2.out.chg HG9.out.chg
            have HA9 := Aside0.mk hA9
            have hX9 := HG9.out.chg.blk HX.out HF.out.1
            have t0 := cell_blk (j := 0) (u := .int .i64 W) hX9 rfl
            have t1 := cell_blk (j := 1) (u := .int .i64 H) hX9 rfl
            have t2 := cell_blk (j := 2) (u := .slice At C.length ct) hX9 rfl
            have hfd := fieldF_ok hA9.bytes HOK.out (show s.length ≤ 1000000 by have := hA9.slen; omega)
            have hdl : (distOf W C s).length ≤ 1000 := by rw [(distOf_spec hA9.bytes HOK.out).1]; exact hA9.tlen
            have hel : (dirsOf W H C s).length ≤ 1000 := by rw [dirs_len]; exact hA9.tlen
            have HDL := Aside0.mk (And.intro hdl hel)
            clear hdl hel
            have HFD := Aside0.mk hfd
            clear hA9 hX9 hfd
            go_upto_region 16 with (first
              | (go_at_call 58; refine (field_calls W H At ct C As cs s _ _ _ _ HA9.out.tile HA9.out.tcap HA9.out.seeds HA9.out.scap HFD.out).mono ?_; rintro e w10 ⟨v0, v1, rfl, ho0, ho1, hb⟩; obtain ⟨Ad, cd, rfl⟩ := Kd.R_slice ho0; obtain ⟨Ae, ce, rfl⟩ := Kd.R_slice ho1; have HB10 := Aside0.mk hb; have HD10 := Aside0.mk ho0; have HE10 := Aside0.mk ho1; clear ho0 ho1 hb t0 t1 t2)
              | ((with_reducible refine gate_dst (N := 18) rfl ?_); refine box_event ?hg (N := 18) ?hd (cs := #[.slice none 0 0, .slice none 0 0]) (t := 60) ?hr ?_; (case hd => rfl); (case hg => rfl); (case hr => first | (go_simp; done) | (go_simp; rfl)); intro gf hg w11 hbox hb; have z0 : w11.cell? ⟨gf, 0, none⟩ = _ := cell_blk hbox rfl; have z1 : w11.cell? ⟨gf, 1, none⟩ = _ := cell_blk hbox rfl; have f0 := free_blk hbox 0; have f1 := free_blk hbox 1; have HF11 := Aside0.mk hbox; have HGF : Aside0 (w10.heap.size ≤ gf) := ⟨by rw [hg]; exact Nat.le_refl _⟩; have HB11 := Aside0.mk hb; clear hb hbox hg))
            obtain ⟨w12, hw12⟩ : ∃ w12, w12 = ((w11.setCell ⟨gf, 0, none⟩ (.slice Ad (distOf W C s).length cd)).setCell ⟨gf, 1, none⟩ (.slice Ae (dirsOf W H C s).length ce)) := ⟨_, rfl⟩
            rw [← hw12]
            have hB12 : Below w10.heap.size w10 w12 := by
              rw [hw12]
              exact (((Chg.of_below HB11.out (fun b => w10.heap.size ≤ b)).set_ (p := ⟨gf, 0, none⟩) (.inl HGF.out) _).set_ (p := ⟨gf, 1, none⟩) (.inl HGF.out) _).below (fun k hk => hk) (Nat.le_refl _)
            have hx12 : w12.heap[gf]? = some (.cells #[.slice Ad (distOf W C s).length cd, .slice Ae (dirsOf W H C s).length ce] 60 (0, 0)) := by rw [hw12]; exact set_blk (set_blk HF11.out 0 _) 1 _
            have HG12 := Aside0.mk (HG9.out.below (below_step HB10.out hB12))
            have HS12 : Aside0 (w2.heap.size ≤ w9.heap.size ∧ w9.heap.size ≤ w10.heap.size ∧ w10.heap.size ≤ w12.heap.size) := ⟨HG9.out.chg.size, HB10.out.size, hB12.size⟩
            have HD12 := Aside0.mk (Kd.R_below HD10.out hB12)
            have HE12 := Aside0.mk (Kd.R_below HE10.out hB12)
            have HF12 := Aside0.mk hx12
            have s0 := cell_blk (j := 0) (u := .slice Ad (distOf W C s).length cd) hx12 rfl
            have s1 := cell_blk (j := 1) (u := .slice Ae (dirsOf W H C s).length ce) hx12 rfl
            have HA12 := Aside0.mk (HA2.out.chg HG12.out.chg)
            clear hw12 hB12 hx12 z0 z1 f0 f1 HF11 HB11 HD10 HE10 HG9 HA9 HFD HB10
            obtain ⟨g', cap', e', p0, p1, p2, p3, pf⟩ := HG12.out.m.flds.cells HP5.out.1
            obtain ⟨rfl, rfl⟩ : g' = g ∧ cap' = cap := by
              have := e'.symm.trans HE5.out
              injection this with h1 _ h2
              injection h1 with h1
              injection h1 with h1 _ _
              exact ⟨h1, h2⟩
            clear e'
            have hgf : gf ≠ g' := fun e => by
              have h1 := HF12.out
              obtain ⟨cs1, h2⟩ := (HG12.out.m.flds.lt (b := g') (by rw [HE5.out]; rfl)).2
              rw [e, h2] at h1
              injection h1 with h1
              injection h1 with _ h1 _
              exact absurd h1 (by decide)
            have HGFG := Aside0.mk hgf
            clear hgf
            obtain ⟨cs12, hk12⟩ := (HG12.out.m.flds.lt (b := g') (by rw [HE5.out]; rfl)).2
            have HK12 := Aside0.mk hk12
            clear hk12 pf
            have fl : ∀ (l4 : World) (v : Value), ((((l4.setCell ⟨g', slot * 4, none⟩ (.int .i64 ver)).setCell ⟨g', slot * 4 + 1, none⟩ v).setCell ⟨g', slot * 4 + 2, none⟩ (.slice Ad (distOf W C s).length cd)).setCell ⟨g', slot * 4 + 3, none⟩ (.slice Ae (dirsOf W H C s).length ce)).cell? ⟨gf, 0, none⟩ = l4.cell? ⟨gf, 0, none⟩ ∧ ((((l4.setCell ⟨g', slot * 4, none⟩ (.int .i64 ver)).setCell ⟨g', slot * 4 + 1, none⟩ v).setCell ⟨g', slot * 4 + 2, none⟩ (.slice Ad (distOf W C s).length cd)).setCell ⟨g', slot * 4 + 3, none⟩ (.slice Ae (dirsOf W H C s).length ce)).cell? ⟨gf, 1, none⟩ = l4.cell? ⟨gf, 1, none⟩ := fun l4 v =>
              ⟨by rw [cfar HGFG.out, cfar HGFG.out, cfar HGFG.out, cfar HGFG.out], by rw [cfar HGFG.out, cfar HGFG.out, cfar HGFG.out, cfar HGFG.out]⟩
            have FL := Aside0.mk fl
            clear fl
            go_region_held3 (fun w' => w'.cell? ⟨gf, 0, none⟩ = some (.slice Ad (distOf W C s).length cd) ∧ w'.cell? ⟨gf, 1, none⟩ = some (.slice Ae (dirsOf W H C s).length ce))
              (first | exact ⟨s0, s1⟩ | exact ⟨u0, u1⟩ | exact ⟨(FL.out _ _).1.trans u0, (FL.out _ _).2.trans u1⟩ | go_keep)
              (first
                | (go_at_call 73; refine (cloneS_calls As cs s _ (Kd.C_drew HA12.out.seeds) (by have := HA12.out.slen; omega)).mono ?_; rintro e w13 ⟨v13, rfl, ho, hb⟩; obtain ⟨B3, n3, rfl⟩ := Kd.R_slice ho; have u0 := pw_cell_below hb (a := ⟨gf, 0, none⟩) (v := .slice Ad (distOf W C s).length cd) s0; have u1 := pw_cell_below hb (a := ⟨gf, 1, none⟩) (v := .slice Ae (dirsOf W H C s).length ce) s1; have y0 := pw_cell_below (w := w12.drew) hb p0; have y1 := pw_cell_below (w := w12.drew) hb p1; have y2 := pw_cell_below (w := w12.drew) hb p2; have y3 := pw_cell_below (w := w12.drew) hb p3; have hk13 := (hb.block g' (blk_lt (w := w12.drew) HK12.out)).trans HK12.out; have fy0 := free_blk hk13 (slot * 4); have fy1 := free_blk hk13 (slot * 4 + 1); have fy2 := free_blk hk13 (slot * 4 + 2); have fy3 := free_blk hk13 (slot * 4 + 3); have HB13 := Aside0.mk hb; have HO13 := Aside0.mk ho; clear hb ho hk13))
            rename_i hHeld
            have hfv := HE5.out
            subst hfv
            obtain ⟨w14, hw14⟩ : ∃ w14, w14 = ((((w13.setCell ⟨g', slot * 4, none⟩ (.int .i64 ver)).setCell ⟨g', slot * 4 + 1, none⟩ (.slice B3 s.length n3)).setCell ⟨g', slot * 4 + 2, none⟩ (.slice Ad (distOf W C s).length cd)).setCell ⟨g', slot * 4 + 3, none⟩ (.slice Ae (dirsOf W H C s).length ce)) := ⟨_, rfl⟩
            rw [← hw14] at hHeld ⊢
            have hB13 : Below w12.heap.size w12 w13 := below_step (below_drew1 (Below.refl _ _)) HB13.out
            have hG13 := HG12.out.below hB13
            have hs13 : w12.heap.size ≤ w13.heap.size := hB13.size
            have hyk : KeptM w13 (ownN own w2.heap.size w13.heap.size) ⟨ver, .slice B3 s.length n3, .slice Ad (distOf W C s).length cd, .slice Ae (dirsOf W H C s).length ce⟩ ⟨ver, s, distOf W C s, dirsOf W H C s⟩ := by
              have h12 := HS12.out
              refine ⟨rfl, ?_, ?_, ?_, ⟨HA12.out.slen, HDL.out⟩⟩
              · exact Kd.R_lower (Kd.R_mono (Kd.R_bound HO13.out) (fun x hx => .inr ⟨by have : w12.heap.size ≤ x := hx.2.1; omega, hx.2.2.1⟩)) (Nat.zero_le _)
              · exact Kd.R_lower (Kd.R_mono (Kd.R_bound (Kd.R_below HD12.out hB13)) (fun x hx => .inr ⟨by have : w9.heap.size ≤ x := hx.2.1; omega, hx.2.2.1⟩)) (Nat.zero_le _)
              · exact Kd.R_lower (Kd.R_mono (Kd.R_bound (Kd.R_below HE12.out hB13)) (fun x hx => .inr ⟨by have : w9.heap.size ≤ x := hx.2.1; omega, hx.2.2.1⟩)) (Nat.zero_le _)
            have hgo : own g' ∨ w2.heap.size ≤ g' := (hG13.m.ownF g' rfl).imp id (fun h => h.1)
            have hc14 : Chg own w2 w14 := by
              rw [hw14]
              exact (((hG13.chg.set_ (p := ⟨g', slot * 4, none⟩) hgo _).set_ (p := ⟨g', slot * 4 + 1, none⟩) hgo _).set_ (p := ⟨g', slot * 4 + 2, none⟩) hgo _).set_ (p := ⟨g', slot * 4 + 3, none⟩) hgo _
            have hs14 : w13.heap.size ≤ w14.heap.size := by
              rw [hw14]
              exact (((((Chg.refl (fun _ => True) w13).set_ (p := ⟨g', slot * 4, none⟩) (.inl trivial) _).set_ (p := ⟨g', slot * 4 + 1, none⟩) (.inl trivial) _).set_ (p := ⟨g', slot * 4 + 2, none⟩) (.inl trivial) _).set_ (p := ⟨g', slot * 4 + 3, none⟩) (.inl trivial) _).size
            have hm14 := hG13.m.store HP5.out.1 hyk
            rw [← hw14] at hm14
            have HG14 : Aside0 (GS own w2 w14 sb lb k sv4 mb s4 nw4 od4 D4 ord4 (.slice (some ⟨g', 0, none⟩) (kvs5.set slot ⟨ver, .slice B3 s.length n3, .slice Ad (distOf W C s).length cd, .slice Ae (dirsOf W H C s).length ce⟩).length cap') (kvs5.set slot ⟨ver, .slice B3 s.length n3, .slice Ad (distOf W C s).length cd, .slice Ae (dirsOf W H C s).length ce⟩) (kps5.set slot ⟨ver, s, distOf W C s, dirsOf W H C s⟩) { c2 with bu := c2.bu + 1 }) := ⟨hm14.mono (ownN_mono hs14), hc14, HM2.out.ownB⟩
            have hk14 := HG14.out.m.kept slot (by rw [List.length_set]; exact HP5.out.1)
            have hk5 : kps5.length = kvs5.length := hG13.m.klen
            have HK5 := Aside0.mk hk5
            have e14 : (kvs5.set slot ⟨ver, .slice B3 s.length n3, .slice Ad (distOf W C s).length cd, .slice Ae (dirsOf W H C s).length ce⟩).getD slot default = ⟨ver, .slice B3 s.length n3, .slice Ad (distOf W C s).length cd, .slice Ae (dirsOf W H C s).length ce⟩ := getD_set_same _ _ _ HP5.out.1
            have e15 : (kps5.set slot ⟨ver, s, distOf W C s, dirsOf W H C s⟩).getD slot default = ⟨ver, s, distOf W C s, dirsOf W H C s⟩ := getD_set_same _ _ _ (by rw [hk5]; exact HP5.out.1)
            rw [e14, e15] at hk14
            have HD14 := Aside0.mk (R_C hk14.dist).1
            have HR14 := Aside0.mk (R_C hk14.dirs).1
            have hx14 := hc14.blk HX2.out HF.out.2.1
            have HX14 := Aside0.mk hx14
            have HE15 := Aside0.mk e15
            obtain ⟨s0, s1⟩ := hHeld
            clear hw14 hB13 hG13 hs13 hyk hgo hc14 hs14 hm14 hk14 hk5 e14 e15 hx14 u0 u1 y0 y1 y2 y3 fy0 fy1 fy2 fy3 p0 p1 p2 p3
            go_wp2_with (go_at_call 100; refine (own_calls Ad cd (distOf W C s) Ae ce (dirsOf W H C s) _ HD14.out HR14.out (by have := HDL.out; omega) (by have := HDL.out; omega)).mono ?_; rintro e w15 ⟨B1, n1, B2, n2, rfl, ho1, ho2, hb⟩; have HO1 := Aside0.mk ho1; have HO2 := Aside0.mk ho2; have HB15 := Aside0.mk hb; have hx8 := (hb.block g2 (blk_lt HX14.out)).trans HX14.out; have HX15 := Aside0.mk hx8; have z0 := cell_blk (j := 0) (u := .slice none 0 0) hx8 rfl; have z1 := cell_blk (j := 1) (u := .slice none 0 0) hx8 rfl; have fg0 := free_blk hx8 0; have fg1 := free_blk hx8 1; clear hx8 ho1 ho2 hb)
            (try simp only [Exit.inBlock, Exit.then])
            have hx9 := set_blk (set_blk HX15.out 0 (.slice B1 (distOf W C s).length n1)) 1 (.slice B2 (dirsOf W H C s).length n2)
            refine bodyPost_ret (results_ct rfl _ _ g2 60 #[.slice B1 (distOf W C s).length n1, .slice B2 (dirsOf W H C s).length n2] (0, 0) _ rfl hx9 Try.underlying60 rfl (by kernel_rfl)) rfl ?_
            obtain ⟨m1_, m2_, m3_, m4_, m5_, m6_⟩ := HG14.out.ends HB.out ⟨HF.out.2.1, HF.out.2.2.2.2, blk_lt HX2.out⟩ HB15.out HX15.out HO1.out HO2.out
            have hkl : kps.length = seats.length := HM2.out.klen.trans HLEN.out
            refine ⟨distOf W C s, dirsOf W H C s, B1, n1, B2, n2, rfl, sv4, s4, nw4, od4, D4, ord4, _, _, _, _, _, slot, had, out, m1_, m2_, m3_, by rw [List.length_set]; exact HP5.out.2.1, m4_, m5_, m6_, HU4.out, fun hh1 hhv hhs => ?_, fun _ => ⟨rfl, rfl, HE15.out, fun j hj hjs => ?_, ?_⟩⟩
            · exfalso
              have hsl := (HU4.out.hit hh1).1
              have hkk : ky = kps.getD slot default := by rw [HKV.out.2]; exact HP5.out.2.2 slot (by omega)
              have hh := HHIT.out
              rw [← hkk] at hhv hhs
              rw [hh1, hhv, hhs] at hh
              simp at hh
            · rw [← HP5.out.2.2 j (by omega)]
              exact getD_set_other _ _ _ hjs
            · rw [HC2.out, HC1.out]
end Go.Proofs.Ytgcfcemgeppkmaa.P
namespace Go.Proofs.Ytgcfcemgeppkmaa.P
open Go.RowKit Go.Proofs.YtgcfcemgeppkmaaW.PrintWords Go.Proofs.YtgcfcemgeppkmaaW.PrintLast Go.Proofs.YtgcfcemgeppkmaaW.PrintMore
open Go.Proofs.Ytgcfcemgeppkmaa.Ord Go.Proofs.Ytgcfcemgeppkmaa.Dist
set_option linter.unusedVariables false
set_option linter.unusedSimpArgs false
variable {w w' : World} {own : Nat → Prop} {fv : Value} {kvs : List Kv} {kps : List Kept} {sb lb mb : Nat} {k : Int} {sv : Value} {seats : List Seat} {nw od : Int} {D : DataW Unit} {ord : List Nat} {c : Cnt}
def cnt0 : Cnt := ⟨0, 0, 0, 0, 0, 0⟩
/-- A shelf that keeps nothing. -/
def Shelf0 (w : World) (own : Nat → Prop) (sb lb : Nat) (k : Int) (mb : Nat) (c : Cnt) : Prop := ShelfM w own sb lb k (.slice none 0 0) mb [] (-1) (-1) (.map []) [] (.slice none 0 0) [] [] c
set_option maxRecDepth 100000 in
set_option maxHeartbeats 2000000 in
theorem newS_calls (k : Int) (hk : 1 ≤ k) (w : World) :
    Calls Try.prog 64 #[.int .i64 k] w fun e w' => ∃ sb lb mb, e = .returned (.pointer (some ⟨sb, 0, none⟩)) ∧ Shelf0 w' (fun b => w.heap.size ≤ b ∧ b < w'.heap.size) sb lb k mb cnt0 ∧ Below w.heap.size w w' := by
  have d1 : decide (k < 1) = false := decide_eq_false (by omega)
  go_enter Try.func64, Try.ntmps64
  go_wp2_with (first
    | (go_at_call 97; refine (new_calls k hk _).mono ?_; rintro e w1 ⟨lb, mb, hlb, rfl, hok, hb⟩; have HOK := Aside0.mk hok; have HB1 := Aside0.mk hb; have HLB := Aside0.mk hlb; clear hok hb hlb)
    | ((with_reducible refine gate_dst (N := 8) rfl ?_); refine box_event ?hg (N := 8) ?hd (cs := #[.pointer (some ⟨lb, 0, none⟩), .slice none 0 0, .int .u64 0, .int .u64 0, .int .u64 0, .int .u64 0, .int .u64 0, .int .u64 0]) (t := 116) ?hr ?_; (case hd => rfl); (case hg => rfl); (case hr => first | (go_simp; done) | (go_simp; rfl)); intro sb hg w2 hbox hb; have HB2 := Aside0.mk hb; have HX := Aside0.mk hbox; have HG := Aside0.mk hg; clear hb hbox hg))
  go_ret
  have hok2 := HOK.out.below HB2.out
  have hs1 := HB1.out.size
  have hs2 := HB2.out.size
  refine ⟨sb, lb, mb, rfl, ⟨HX.out, ?_, .inl ⟨rfl, rfl⟩, rfl, fun i hi => absurd hi (by simp), ⟨by rw [HG.out]; exact hs1, blk_lt HX.out⟩, ?_, fun b hb => by simp [Value.ownBlock] at hb⟩, below_step HB1.out HB2.out⟩
  · exact { hok2 with m := { hok2.m with seats := .inl ⟨rfl, rfl⟩, lbB := Nat.zero_le _, mbB := Nat.zero_le _ } }
  · rintro b (rfl | rfl | hb)
    · exact ⟨HOK.out.m.lbB, blk_lt hok2.m.blk⟩
    · exact ⟨HOK.out.m.mbB, hok2.m.map.lt⟩
    · simp [Value.ownBlock] at hb
set_option maxHeartbeats 2000000 in
theorem newS_none (k : Int) (hk : k < 1) (w : World) : Calls Try.prog 64 #[.int .i64 k] w fun e w' => e = .returned (.pointer none) ∧ w' = w := by
  have d1 : decide (k < 1) = true := decide_eq_true hk
  go_enter Try.func64, Try.ntmps64
  go_wp2
  go_ret
  exact ⟨rfl, rfl⟩
set_option maxRecDepth 100000 in
set_option maxHeartbeats 2000000 in
theorem keysS_calls (h : ShelfM w own sb lb k sv mb seats nw od D ord fv kvs kps c) (hsm : seats.length ≤ 1000000) :
    Calls Try.prog 71 #[.pointer (some ⟨sb, 0, none⟩)] w fun e w' => ∃ v, e = .returned v ∧ Kd.R kKey 86 w' w.heap.size (fun _ => True) v (ord.map (keyF seats)) ∧ Below w.heap.size w w' := by
  have hp := cell_blk (j := 0) (u := .pointer (some ⟨lb, 0, none⟩)) h.blk rfl
  have HL := Aside0.mk h.lru
  clear h
  go_enter Try.func71, Try.ntmps71
  go_wp2_with (go_at_call 103; refine (keys_calls HL.out hsm).mono ?_; rintro e w1 ⟨v, rfl, ho, hb⟩; have HO := Aside0.mk ho; have HB := Aside0.mk hb; clear ho hb)
  go_ret
  exact ⟨v, rfl, HO.out, HB.out⟩
set_option maxHeartbeats 2000000 in
theorem keysS_nil (w : World) : Calls Try.prog 71 #[.pointer none] w fun e w' => e = .returned (.slice none 0 0) ∧ w' = w := by
  go_enter Try.func71, Try.ntmps71
  go_wp2
  go_ret
  exact ⟨rfl, rfl⟩
set_option maxHeartbeats 2000000 in
theorem flushS_nil (w : World) : Calls Try.prog 68 #[.pointer none] w fun e w' => e = .returned (.tuple #[]) ∧ w' = w := by
  go_enter Try.func68, Try.ntmps68
  go_wp2
  go_end0
  exact ⟨rfl, rfl⟩
def cntV (c : Cnt) : Value := .agg #[.int .u64 c.re, .int .u64 c.se, .int .u64 c.bu, .int .u64 c.hi, .int .u64 c.st, .int .u64 c.ev]
set_option maxRecDepth 100000 in
set_option maxHeartbeats 2000000 in
theorem countS_calls (h : ShelfM w own sb lb k sv mb seats nw od D ord fv kvs kps c) :
    Calls Try.prog 67 #[.pointer (some ⟨sb, 0, none⟩)] w fun e w' => e = .returned (cntV c) ∧ Below w.heap.size w w' := by
  have hb0 := h.blk
  have HB0 := Aside0.mk hb0
  clear h hb0
  go_enter Try.func67, Try.ntmps67
  go_wp2_with ((with_reducible refine gate_dst (N := 2) rfl ?_); refine box_event ?hg (N := 2) ?hd (cs := #[.int .u64 0, .int .u64 0, .int .u64 0, .int .u64 0, .int .u64 0, .int .u64 0]) (t := 77) ?hr ?_; (case hd => rfl); (case hg => rfl); (case hr => first | (go_simp; done) | (go_simp; rfl)); intro g2 hg w2 hbox hb; have hb2 := (hb.block sb (blk_lt HB0.out)).trans HB0.out; have k2 := cell_blk (j := 2) (u := .int .u64 c.re) hb2 rfl; have k3 := cell_blk (j := 3) (u := .int .u64 c.se) hb2 rfl; have k4 := cell_blk (j := 4) (u := .int .u64 c.bu) hb2 rfl; have k5 := cell_blk (j := 5) (u := .int .u64 c.hi) hb2 rfl; have k6 := cell_blk (j := 6) (u := .int .u64 c.st) hb2 rfl; have k7 := cell_blk (j := 7) (u := .int .u64 c.ev) hb2 rfl; have z0 := cell_blk (j := 0) (u := .int .u64 0) hbox rfl; have z1 := cell_blk (j := 1) (u := .int .u64 0) hbox rfl; have z2 := cell_blk (j := 2) (u := .int .u64 0) hbox rfl; have z3 := cell_blk (j := 3) (u := .int .u64 0) hbox rfl; have z4 := cell_blk (j := 4) (u := .int .u64 0) hbox rfl; have z5 := cell_blk (j := 5) (u := .int .u64 0) hbox rfl; have f0 := free_blk hbox 0; have f1 := free_blk hbox 1; have f2 := free_blk hbox 2; have f3 := free_blk hbox 3; have f4 := free_blk hbox 4; have f5 := free_blk hbox 5; have HX := Aside0.mk hbox; have HB := Aside0.mk hb; have HG := Aside0.mk hg; clear hbox hb hg hb2)
  have hx9 := set_blk (set_blk (set_blk (set_blk (set_blk (set_blk HX.out 0 (.int .u64 c.re)) 1 (.int .u64 c.se)) 2 (.int .u64 c.bu)) 3 (.int .u64 c.hi)) 4 (.int .u64 c.st)) 5 (.int .u64 c.ev)
  (try simp only [Exit.inBlock, Exit.then])
  refine bodyPost_ret (results_cell_row rfl _ _ g2 77 #[.int .u64 c.re, .int .u64 c.se, .int .u64 c.bu, .int .u64 c.hi, .int .u64 c.st, .int .u64 c.ev] (0, 0) _ rfl hx9 Try.underlying77 rfl (by kernel_rfl)) rfl ?_
  have hg : w.heap.size ≤ g2 := by rw [HG.out]; exact Nat.le_refl _
  exact ⟨rfl, (((((((Chg.of_below HB.out (fun b => w.heap.size ≤ b)).set_ (p := ⟨g2, 0, none⟩) (.inl hg) _).set_ (p := ⟨g2, 1, none⟩) (.inl hg) _).set_ (p := ⟨g2, 2, none⟩) (.inl hg) _).set_ (p := ⟨g2, 3, none⟩) (.inl hg) _).set_ (p := ⟨g2, 4, none⟩) (.inl hg) _).set_ (p := ⟨g2, 5, none⟩) (.inl hg) _).below (fun k hk => hk) (Nat.le_refl _)⟩
set_option maxRecDepth 100000 in
set_option maxHeartbeats 2000000 in
theorem countS_nil (w : World) : Calls Try.prog 67 #[.pointer none] w fun e w' => e = .returned (cntV cnt0) ∧ Below w.heap.size w w' := by
  go_enter Try.func67, Try.ntmps67
  go_wp2_with ((with_reducible refine gate_dst (N := 2) rfl ?_); refine box_event ?hg (N := 2) ?hd (cs := #[.int .u64 0, .int .u64 0, .int .u64 0, .int .u64 0, .int .u64 0, .int .u64 0]) (t := 77) ?hr ?_; (case hd => rfl); (case hg => rfl); (case hr => first | (go_simp; done) | (go_simp; rfl)); intro g2 hg w2 hbox hb; have z0 := cell_blk (j := 0) (u := .int .u64 0) hbox rfl; have z1 := cell_blk (j := 1) (u := .int .u64 0) hbox rfl; have z2 := cell_blk (j := 2) (u := .int .u64 0) hbox rfl; have z3 := cell_blk (j := 3) (u := .int .u64 0) hbox rfl; have z4 := cell_blk (j := 4) (u := .int .u64 0) hbox rfl; have z5 := cell_blk (j := 5) (u := .int .u64 0) hbox rfl; have f0 := free_blk hbox 0; have f1 := free_blk hbox 1; have f2 := free_blk hbox 2; have f3 := free_blk hbox 3; have f4 := free_blk hbox 4; have f5 := free_blk hbox 5; have HX := Aside0.mk hbox; have HB := Aside0.mk hb; have HG := Aside0.mk hg; clear hbox hb hg)
  have hx9 := set_blk (set_blk (set_blk (set_blk (set_blk (set_blk HX.out 0 (.int .u64 0)) 1 (.int .u64 0)) 2 (.int .u64 0)) 3 (.int .u64 0)) 4 (.int .u64 0)) 5 (.int .u64 0)
  (try simp only [Exit.inBlock, Exit.then])
  refine bodyPost_ret (results_cell_row rfl _ _ g2 77 #[.int .u64 0, .int .u64 0, .int .u64 0, .int .u64 0, .int .u64 0, .int .u64 0] (0, 0) _ rfl hx9 Try.underlying77 rfl (by kernel_rfl)) rfl ?_
  have hg : w.heap.size ≤ g2 := by rw [HG.out]; exact Nat.le_refl _
  exact ⟨rfl, (((((((Chg.of_below HB.out (fun b => w.heap.size ≤ b)).set_ (p := ⟨g2, 0, none⟩) (.inl hg) _).set_ (p := ⟨g2, 1, none⟩) (.inl hg) _).set_ (p := ⟨g2, 2, none⟩) (.inl hg) _).set_ (p := ⟨g2, 3, none⟩) (.inl hg) _).set_ (p := ⟨g2, 4, none⟩) (.inl hg) _).set_ (p := ⟨g2, 5, none⟩) (.inl hg) _).below (fun k hk => hk) (Nat.le_refl _)⟩
set_option maxRecDepth 100000 in
set_option maxHeartbeats 2000000 in
theorem get_nil (w : World) (a b ver W H : Int) (At : Option Addr) (n ct : Nat) (As : Option Addr) (m cs : Nat) :
    Calls Try.prog 65 #[.pointer none, .int .i64 a, .int .i64 b, .int .i64 ver, .agg #[.int .i64 W, .int .i64 H, .slice At n ct], .slice As m cs] w fun e w' => e = .returned (.tuple #[.agg #[.slice none 0 0, .slice none 0 0], .int .i64 1]) ∧ Below w.heap.size w w' := by
  go_enter Try.func65, Try.ntmps65
  go_wp2_with (first
    | ((with_reducible refine gate_dst (N := 10) rfl ?_); refine box_event ?hg (N := 10) ?hd (cs := #[.int .i64 W, .int .i64 H, .slice At n ct]) (t := 35) ?hr ?_; (case hd => rfl); (case hg => rfl); (case hr => first | (go_simp; done) | (go_simp; rfl)); intro g1 hg w1 hbox hb; have HB1 := Aside0.mk hb; clear hbox hb hg)
    | ((with_reducible refine gate_dst (N := 12) rfl ?_); refine box_event ?hg (N := 12) ?hd (cs := #[.slice none 0 0, .slice none 0 0]) (t := 60) ?hr ?_; (case hd => rfl); (case hg => rfl); (case hr => first | (go_simp; done) | (go_simp; rfl)); intro g2 hg w2 hbox hb; have HX2 := Aside0.mk hbox; have HB2 := Aside0.mk hb; have HG2 := Aside0.mk hg; have z0 := cell_blk (j := 0) (u := .slice none 0 0) hbox rfl; have z1 := cell_blk (j := 1) (u := .slice none 0 0) hbox rfl; have f0 := free_blk hbox 0; have f1 := free_blk hbox 1; clear hbox hb hg))
  (try simp only [Exit.inBlock, Exit.then])
  have hx9 := set_blk (set_blk HX2.out 0 (.slice none 0 0)) 1 (.slice none 0 0)
  refine bodyPost_ret (results_ct rfl _ _ g2 60 #[.slice none 0 0, .slice none 0 0] (0, 0) _ rfl hx9 Try.underlying60 rfl (by kernel_rfl)) rfl ?_
  have hg : w.heap.size ≤ g2 := by rw [HG2.out]; exact HB1.out.size
  exact ⟨rfl, (((Chg.of_below (below_step HB1.out HB2.out) (fun b => w.heap.size ≤ b)).set_ (p := ⟨g2, 0, none⟩) (.inl hg) _).set_ (p := ⟨g2, 1, none⟩) (.inl hg) _).below (fun k hk => hk) (Nat.le_refl _)⟩
set_option maxRecDepth 100000 in
set_option maxHeartbeats 2000000 in
theorem get_no (sb : Nat) (w : World) (a b ver : Int) {W H : Int} {At : Option Addr} {ct : Nat} {C : List Int} {As : Option Addr} {cs : Nat} {s : List Seed} (hA : Handed3 w own At ct C As cs s) (hok : ¬ SeedsOk W H C s) :
    Calls Try.prog 65 #[.pointer (some ⟨sb, 0, none⟩), .int .i64 a, .int .i64 b, .int .i64 ver, .agg #[.int .i64 W, .int .i64 H, .slice At C.length ct], .slice As s.length cs] w fun e w' => e = .returned (.tuple #[.agg #[.slice none 0 0, .slice none 0 0], .int .i64 1]) ∧ Below w.heap.size w w' := by
  have hmay : seedsMayF W H C s = some false := by unfold seedsMayF; simp [hok]
  have HMAY := Aside0.mk hmay
  have HA := Aside0.mk hA
  clear hA hok hmay
  go_enter Try.func65, Try.ntmps65
  go_wp2_with (first
    | ((with_reducible refine gate_dst (N := 10) rfl ?_); refine box_event ?hg (N := 10) ?hd (cs := #[.int .i64 W, .int .i64 H, .slice At C.length ct]) (t := 35) ?hr ?_; (case hd => rfl); (case hg => rfl); (case hr => first | (go_simp; done) | (go_simp; rfl)); intro g1 hg w1 hbox hb; have HB1 := Aside0.mk hb; have HX1 := Aside0.mk hbox; clear hbox hb hg)
    | ((with_reducible refine gate_dst (N := 12) rfl ?_); refine box_event ?hg (N := 12) ?hd (cs := #[.slice none 0 0, .slice none 0 0]) (t := 60) ?hr ?_; (case hd => rfl); (case hg => rfl); (case hr => first | (go_simp; done) | (go_simp; rfl)); intro g2 hg w2 hbox hb; have HX2 := Aside0.mk hbox; have HB2 := Aside0.mk hb; have HG2 := Aside0.mk hg; have hb12 := (hb.block g1 (blk_lt HX1.out)).trans HX1.out; have t0 := cell_blk (j := 0) (u := .int .i64 W) hb12 rfl; have t1 := cell_blk (j := 1) (u := .int .i64 H) hb12 rfl; have t2 := cell_blk (j := 2) (u := .slice At C.length ct) hb12 rfl; have HB := Aside0.mk (below_step HB1.out hb); clear hbox hb hg hb12)
    | (go_at_call 39; refine (seedsMay_calls W H At ct C As cs s false _ (Kd.C_below HA.out.tile HB.out) HA.out.tcap (Kd.C_below HA.out.seeds HB.out) HA.out.scap HMAY.out).mono ?_; rintro e w3 ⟨rfl, hb⟩; have HB3 := Aside0.mk hb; have hx3 := (hb.block g2 (blk_lt HX2.out)).trans HX2.out; have HX3 := Aside0.mk hx3; have z0 := cell_blk (j := 0) (u := .slice none 0 0) hx3 rfl; have z1 := cell_blk (j := 1) (u := .slice none 0 0) hx3 rfl; have f0 := free_blk hx3 0; have f1 := free_blk hx3 1; clear hb hx3))
  (try simp only [Exit.inBlock, Exit.then])
  have hx9 := set_blk (set_blk HX3.out 0 (.slice none 0 0)) 1 (.slice none 0 0)
  refine bodyPost_ret (results_ct rfl _ _ g2 60 #[.slice none 0 0, .slice none 0 0] (0, 0) _ rfl hx9 Try.underlying60 rfl (by kernel_rfl)) rfl ?_
  have hg : w.heap.size ≤ g2 := by rw [HG2.out]; exact HB1.out.size
  exact ⟨rfl, (((Chg.of_below (below_step HB.out HB3.out) (fun b => w.heap.size ≤ b)).set_ (p := ⟨g2, 0, none⟩) (.inl hg) _).set_ (p := ⟨g2, 1, none⟩) (.inl hg) _).below (fun k hk => hk) (Nat.le_refl _)⟩
end Go.Proofs.Ytgcfcemgeppkmaa.P
namespace Go.Proofs.Ytgcfcemgeppkmaa.P
open Go.RowKit Go.Proofs.YtgcfcemgeppkmaaW.PrintWords Go.Proofs.YtgcfcemgeppkmaaW.PrintLast Go.Proofs.YtgcfcemgeppkmaaW.PrintMore
open Go.Proofs.Ytgcfcemgeppkmaa.Ord Go.Proofs.Ytgcfcemgeppkmaa.Dist
set_option linter.unusedVariables false
set_option linter.unusedSimpArgs false
theorem told19_ok : SeedsOk 2 1 [1, 1] [⟨0, 4, 0⟩] := by
  refine ⟨by unfold TileOk; decide, fun x hx => ?_⟩
  obtain rfl : x = ⟨0, 4, 0⟩ := by simpa using hx
  unfold SeedOk OutOk rd
  simp
theorem told19_dist : distOf 2 [1, 1] [⟨0, 4, 0⟩] = [0, 1] := by
  have hb : ∀ x ∈ ([1, 1] : List Int), 0 ≤ x ∧ x ≤ 255 := by simp
  refine distOf_eq hb told19_ok.1 ⟨rfl, fun i hi => ?_, fun i hi => ?_⟩
  · have h3 : i < 2 := hi
    refine ⟨?_, fun _ => ⟨?_, fun j hj had ho => ?_⟩⟩
    · rcases (show i = 0 ∨ i = 1 by omega) with rfl | rfl <;> simp [rd, grT, INF]
    · rintro k ⟨x, hx, e0, e2⟩
      obtain rfl : x = ⟨0, 4, 0⟩ := by simpa using hx
      have : i = 0 := by have : (0 : Int) = (i : Int) := e0; omega
      subst this
      have : (0 : Int) = k := e2
      subst this
      simp [rd]
    · have hj3 : j < 2 := hj
      have had' : AdjT 2 i j := had
      unfold AdjT at had'
      rcases (show i = 0 ∨ i = 1 by omega) with rfl | rfl <;> rcases (show j = 0 ∨ j = 1 by omega) with rfl | rfl <;> simp [rd, grT] <;> simp at had'
  · have h3 : i < 2 := hi
    rcases (show i = 0 ∨ i = 1 by omega) with rfl | rfl
    · exact ⟨by simp [rd], .inr ⟨by simp [grT, rd], .inl ⟨⟨0, 4, 0⟩, by simp, rfl, by simp [rd]⟩⟩⟩
    · refine ⟨by simp [rd], .inr ⟨by simp [grT, rd], .inr ⟨0, by simp [grT], ?_, by simp [grT, rd], by simp [grT, rd]⟩⟩⟩
      show AdjT 2 _ _
      unfold AdjT
      simp
theorem R_base {α : Type} {d : Kd α} {e base n c : Nat} {ok : Nat → Prop} {w : World} {A : Option Addr} {xs : List α} (h : d.R e w base ok (.slice A n c) xs) : ∀ ad, A = some ad → base ≤ ad.block ∧ ad.block < w.heap.size := by
  rintro ad rfl
  obtain ⟨g, rfl⟩ := Kd.R_head h
  have := (Kd.R_bound h).1 g (by simp [Value.ownBlock])
  exact ⟨this.2.1, this.2.2.1⟩
/-- Rows of the call's own are handed in. -/
theorem Handed3.of_rows {w : World} {own : Nat → Prop} {bt bs : Nat} {At : Option Addr} {ct : Nat} {C : List Int} {As : Option Addr} {cs : Nat} {s : List Seed} {okt oks : Nat → Prop} (ht : Kd.R (Kd.int .u8) 5 w bt okt (.slice At C.length ct) C) (hs : RowS w bs oks (.slice As s.length cs) s) (ho : ∀ b, own b → b < w.heap.size → (bt ≤ b → okt b → False) ∧ (bs ≤ b → oks b → False)) (hb : ∀ x ∈ C, 0 ≤ x ∧ x ≤ 255) (hl : C.length ≤ 1000 ∧ s.length ≤ 1000) : Handed3 w own At ct C As cs s where
  tile := (R_C ht).1
  tcap := (R_C ht).2
  seeds := (R_C hs).1
  scap := (R_C hs).2
  farT ad e _ h := by
    have h1 := R_base ht ad e
    subst e
    obtain ⟨g, rfl⟩ := Kd.R_head ht
    exact (ho _ h h1.2).1 h1.1 (ht.1 g (by simp [Value.ownBlock]))
  farS ad e _ h := by
    have h1 := R_base hs ad e
    subst e
    obtain ⟨g, rfl⟩ := Kd.R_head hs
    exact (ho _ h h1.2).2 h1.1 (hs.1 g (by simp [Value.ownBlock]))
  bytes := hb
  tlen := hl.1
  slen := hl.2
/-- The first Get of a shelf that keeps nothing: built. -/
theorem GotS.first {k : Int} {ks : Nat → Int × Int} {c : Cnt} {a b ver : Int} {s : List Seed} {Dst Drs : List Int} {n' : Nat} {ks' : Nat → Int × Int} {ord' : List Nat} {kps' : List Kept} {c' : Cnt} {dist dirs : List Int} {slot : Nat} {had out : Bool} (h : GotS 0 k ks [] [] c a b ver s Dst Drs n' ks' ord' kps' c' dist dirs slot had out) (hk : 1 ≤ k) :
    dist = Dst ∧ dirs = Drs ∧ n' = 1 ∧ ks' 0 = (a, b) ∧ ord' = [0] ∧ kps'.getD 0 default = ⟨ver, s, Dst, Drs⟩ ∧ c' = { c with bu := c.bu + 1 } := by
  cases had with
  | true => have := (h.used.hit rfl).1; omega
  | false =>
    obtain ⟨hs, ho, hn, hor⟩ := h.used.fresh rfl (by omega)
    obtain ⟨b1, b2, b3, b4, b5⟩ := h.build (fun e => by simp at e)
    subst hs
    refine ⟨b1, b2, hn, by rw [(h.used.miss rfl).2]; simp, hor, b3, ?_⟩
    rw [b5, ho]
    simp
/-- The same again: a hit. -/
theorem GotS.again {k : Int} {ks : Nat → Int × Int} {ord : List Nat} {kps : List Kept} {c : Cnt} {a b ver : Int} {s : List Seed} {Dst Drs D1 D2 : List Int} {n' : Nat} {ks' : Nat → Int × Int} {ord' : List Nat} {kps' : List Kept} {c' : Cnt} {dist dirs : List Int} {slot : Nat} {had out : Bool} (h : GotS 1 k ks ord kps c a b ver s Dst Drs n' ks' ord' kps' c' dist dirs slot had out) (hk : ks 0 = (a, b)) (hy : kps.getD 0 default = ⟨ver, s, D1, D2⟩) :
    dist = D1 ∧ dirs = D2 ∧ n' = 1 ∧ c' = { c with hi := c.hi + 1 } := by
  cases had with
  | false => exact absurd hk ((h.used.miss rfl).1 0 (by omega))
  | true =>
    obtain ⟨hs, _, _, hn, _⟩ := h.used.hit rfl
    obtain rfl : slot = 0 := by omega
    obtain ⟨b1, b2, _, b4⟩ := h.hit rfl (by rw [hy]) (by rw [hy])
    rw [hy] at b1 b2
    exact ⟨b1, b2, hn, b4⟩
end Go.Proofs.Ytgcfcemgeppkmaa.P
namespace Go.Proofs.Ytgcfcemgeppkmaa.P
open Go.RowKit Go.Proofs.YtgcfcemgeppkmaaW.PrintWords Go.Proofs.YtgcfcemgeppkmaaW.PrintLast Go.Proofs.YtgcfcemgeppkmaaW.PrintMore
open Go.Proofs.Ytgcfcemgeppkmaa.Ord Go.Proofs.Ytgcfcemgeppkmaa.Dist
open Go.Lib
set_option linter.unusedVariables false
set_option linter.unusedSimpArgs false
theorem eqStats (d : Nat) (w : World) (x0 y0 x1 y1 x2 y2 x3 y3 x4 y4 x5 y5 : Int) :
    (Op.equalIn (d + 2) 77 (.agg #[.int .u64 x0, .int .u64 x1, .int .u64 x2, .int .u64 x3, .int .u64 x4, .int .u64 x5]) (.agg #[.int .u64 y0, .int .u64 y1, .int .u64 y2, .int .u64 y3, .int .u64 y4, .int .u64 y5])).run Try.prog w = .ok (x0 == y0 && (x1 == y1 && (x2 == y2 && (x3 == y3 && (x4 == y4 && x5 == y5))))) w := by
  refine eqA_of Try.underlying77 (by kernel_rfl) ?_
  refine eqf_cons (by rfl) (by go_simp; rfl) (by go_simp; rfl) (by go_simp) ?_
  refine eqf_cons (by rfl) (by go_simp; rfl) (by go_simp; rfl) (by go_simp) ?_
  refine eqf_cons (by rfl) (by go_simp; rfl) (by go_simp; rfl) (by go_simp) ?_
  refine eqf_cons (by rfl) (by go_simp; rfl) (by go_simp; rfl) (by go_simp) ?_
  refine eqf_cons (by rfl) (by go_simp; rfl) (by go_simp; rfl) (by go_simp) ?_
  exact eqf_last (by rfl) (by go_simp; rfl) (by go_simp; rfl) (by go_simp)
attribute [local go_sem high] eqStats
theorem lit2_C (w : World) (a b : Int) (t : TypeId) : Kd.C (Kd.int .i64) (w.alloc (.cells #[.int .i64 a, .int .i64 b] t)) (some ⟨w.heap.size, 0, none⟩) ([a, b] : List Int).length [a, b] := by
  have hb := heap_alloc_new w (.cells #[.int .i64 a, .int .i64 b] t)
  refine ⟨rfl, by simp, fun _ => ⟨_, rfl, fun j p hj => ?_⟩⟩
  match j with
  | 0 =>
    obtain rfl : a = p := by simpa using hj
    refine ⟨[.int .i64 a], rfl, rfl, fun i u hu => ?_⟩
    obtain ⟨rfl, rfl⟩ : i = 0 ∧ .int .i64 a = u := by cases i <;> simp_all
    exact cell_blk hb rfl
  | 1 =>
    obtain rfl : b = p := by simpa using hj
    refine ⟨[.int .i64 b], rfl, rfl, fun i u hu => ?_⟩
    obtain ⟨rfl, rfl⟩ : i = 0 ∧ .int .i64 b = u := by cases i <;> simp_all
    exact cell_blk hb rfl
  | j + 2 => simp at hj
theorem ints2_calls (B : Option Addr) (m : Nat) (a b : Int) (wx : World) (h0 : Kd.C (Kd.int .i64) wx B 2 [a, b]) (hm : 2 ≤ m) : Calls Try.prog 51 #[.slice B 2 m, .slice (some ⟨wx.heap.size, 0, none⟩) 2 2] (wx.alloc (.cells #[.int .i64 a, .int .i64 b] 3)) fun e w' => e = .returned (.bool true) ∧ Below (wx.alloc (.cells #[.int .i64 a, .int .i64 b] 3)).heap.size (wx.alloc (.cells #[.int .i64 a, .int .i64 b] 3)) w' :=
  (herdsmanref1_Ints.calls 10 B m [a, b] _ 2 [a, b] true _ (Kd.C_below h0 (below_alloc (Below.refl _ _) _)) hm (lit2_C _ _ _ _) (Nat.le_refl _) (ints_self _ (by simp) 10 (by simp))).mono (fun _ _ ⟨he, hd⟩ => ⟨he, hd.below⟩)
set_option maxRecDepth 100000 in
set_option maxHeartbeats 4000000 in
theorem told19_calls (w : World) : Calls Try.prog 66 #[] w fun e w' => e = .returned (.bool true) ∧ Below w.heap.size w w' := by
  go_enter Try.func66, Try.ntmps66
  go_upto_region 3 with (first
    | (go_at_call 64; refine (newS_calls 1 (by omega) w).mono ?_; rintro e w1 ⟨sb, lb, mb, rfl, hs, hb⟩; have HS1 := Aside0.mk hs; have HB1 := Aside0.mk hb; clear hs hb)
    | ((with_reducible refine gate_dst (N := 7) rfl ?_); refine Kd.R_lit (Kd.int .u8) w1.heap.size 5 ?hg (N := 7) ?hd (xs := ([1, 1] : List Int)) (inner := [.int .u8 1, .int .u8 1]) (ok := fun _ => True) (okp := fun _ => True) ?hr ?hp (fun _ hk => hk) trivial (Below.refl _ _) (Nat.le_refl _) (by simp) ?_; (case hd => rfl); (case hg => rfl); (case hr => first | (go_simp; done) | (go_simp; rfl)); (case hp => exact (Reps.one (show Kd.M (Kd.int .u8) _ _ _ 1 [.int .u8 1] from rfl) (Reps.one (show Kd.M (Kd.int .u8) _ _ _ 1 [.int .u8 1] from rfl) (Reps.none _ _)))); intro v2 w2 ho hb _ _; obtain ⟨A6, n6, rfl⟩ := Kd.R_slice ho; have HB2 := Aside0.mk hb; have HO2 := Aside0.mk ho; clear ho hb)
    | ((with_reducible refine gate_dst (N := 2) rfl ?_); refine box_event ?hg (N := 2) ?hd (cs := #[.int .i64 0, .int .i64 0, .slice none 0 0]) (t := 35) ?hr ?_; (case hd => rfl); (case hg => rfl); (case hr => first | (go_simp; done) | (go_simp; rfl)); intro gt hg w3 hbox hb; have HGT : Aside0 (w1.heap.size ≤ gt) := ⟨by rw [hg]; exact HB2.out.size⟩; have z0 : w3.cell? ⟨gt, 0, none⟩ = _ := cell_blk hbox rfl; have z1 : w3.cell? ⟨gt, 1, none⟩ = _ := cell_blk hbox rfl; have z2 : w3.cell? ⟨gt, 2, none⟩ = _ := cell_blk hbox rfl; have f0 := free_blk hbox 0; have f1 := free_blk hbox 1; have f2 := free_blk hbox 2; have HX3 := Aside0.mk hbox; have HG3 : Aside0 (w2.heap.size ≤ gt) := ⟨by rw [hg]; exact Nat.le_refl _⟩; have HB3 := Aside0.mk hb; clear hb hbox hg))
  obtain ⟨w4, hw4⟩ : ∃ w4, w4 = (((w3.setCell ⟨gt, 0, none⟩ (.int .i64 2)).setCell ⟨gt, 1, none⟩ (.int .i64 1)).setCell ⟨gt, 2, none⟩ (.slice A6 2 n6)) := ⟨_, rfl⟩
  rw [← hw4]
  have hX4 : w4.heap[gt]? = some (.cells #[.int .i64 2, .int .i64 1, .slice A6 2 n6] 35 (0, 0)) := by rw [hw4]; exact set_blk (set_blk (set_blk HX3.out 0 _) 1 _) 2 _
  have hO4 : Kd.R (Kd.int .u8) 5 w4 w1.heap.size (fun _ => True) (.slice A6 ([1, 1] : List Int).length n6) [1, 1] := by
    rw [hw4]
    have h3 := Kd.R_below HO2.out HB3.out
    exact R_set (R_set (R_set h3 HX3.out (by decide) 0 _) (set_blk HX3.out 0 _) (by decide) 1 _) (set_blk (set_blk HX3.out 0 _) 1 _) (by decide) 2 _
  have hB4 : Below w1.heap.size w1 w4 := by
    rw [hw4]
    have hg : w1.heap.size ≤ gt := Nat.le_trans HB2.out.size HG3.out
    exact ((((Chg.of_below (below_step HB2.out HB3.out) (fun k => w1.heap.size ≤ k)).set_ (p := ⟨gt, 0, none⟩) (.inl hg) _).set_ (p := ⟨gt, 1, none⟩) (.inl hg) _).set_ (p := ⟨gt, 2, none⟩) (.inl hg) _).below (fun k hk => hk) (Nat.le_refl _)
  have HX4 := Aside0.mk hX4
  have HO4 := Aside0.mk hO4
  have HB4 := Aside0.mk hB4
  clear hX4 hO4 hB4 hw4 z0 z1 z2 f0 f1 f2 HX3 HG3 HB3 HB2 HO2
  go_upto_region 6 with ((with_reducible refine gate_dst (N := 10) rfl ?_); refine Kd.R_lit k25 w4.heap.size 25 ?hg (N := 10) ?hd (xs := ([(⟨0, 4, 0⟩ : Seed)] : List Seed)) (inner := [.int .i64 0, .int .i64 4, .int .i64 0]) (ok := fun _ => True) (okp := fun _ => True) ?hr ?hp (fun _ hk => hk) trivial (Below.refl _ _) (Nat.le_refl _) (by simp) ?_; (case hd => rfl); (case hg => rfl); (case hr => first | (go_simp; done) | (go_simp; rfl)); (case hp => exact (Reps.c3 (k25_mkM _ _ _ (⟨0, 4, 0⟩ : Seed)) (Reps.none _ _))); intro v5 w5 ho hb _ _; obtain ⟨A5, n5, rfl⟩ := Kd.R_slice ho; have HO5 := Aside0.mk ho; have HB5 := Aside0.mk hb; clear ho hb)
  have hS5 : ShelfM w5 (fun b => w.heap.size ≤ b ∧ b < w1.heap.size) sb lb 1 (.slice none 0 0) mb [] (-1) (-1) (.map []) [] (.slice none 0 0) [] [] cnt0 := ShelfM.below (ShelfM.below HS1.out HB4.out) HB5.out
  have hz1 : w1.heap.size ≤ w4.heap.size := HB4.out.size
  have hz2 : w4.heap.size ≤ w5.heap.size := HB5.out.size
  have hA5 : Handed3 w5 (fun b => w.heap.size ≤ b ∧ b < w1.heap.size) A6 n6 [1, 1] A5 n5 [⟨0, 4, 0⟩] :=
    Handed3.of_rows (Kd.R_below HO4.out HB5.out) HO5.out (fun b hb _ => ⟨fun h _ => by omega, fun h _ => by omega⟩) (by simp) (by simp)
  have HS5 := Aside0.mk hS5
  have HA5 := Aside0.mk hA5
  have HZ := Aside0.mk (And.intro hz1 hz2)
  have hX5 := (HB5.out.block gt (blk_lt HX4.out)).trans HX4.out
  have HX5 := Aside0.mk hX5
  have t0 := cell_blk (j := 0) (u := .int .i64 2) hX5 rfl
  have t1 := cell_blk (j := 1) (u := .int .i64 1) hX5 rfl
  have t2 := cell_blk (j := 2) (u := .slice A6 2 n6) hX5 rfl
  clear hS5 hA5 hz1 hz2 hX5
  go_upto_region 7 with (first
    | (go_at_call 65; refine (get_calls HS5.out (fun b hb => by have := HZ.out; have : b < w1.heap.size := hb.2; omega) rfl (a := 5) (b := 6) (ver := 7) ⟨by omega, by omega⟩ ⟨by omega, by omega⟩ (by simp) (by unfold Cnt.ok cnt0; simp) HA5.out told19_ok).mono ?_; rintro e w6 ⟨d6, r6, Ad, cd, Ae, ce, rfl, sv6, s6, nw6, od6, D6, ord6, fv6, kvs6, kps6, c6, N6, sl6, had6, out6, hm, hn, hwn, hl, hc, hd, hr, hg⟩; have HM6 := Aside0.mk hm; have HN6 := Aside0.mk (And.intro hn (And.intro hwn hl)); have HC6 := Aside0.mk hc; have HD6 := Aside0.mk hd; have HR6 := Aside0.mk hr; have HG6 := Aside0.mk (hg.first (by omega)); clear hm hn hwn hl hc hd hr hg t0 t1 t2)
    | ((with_reducible refine gate_dst (N := 4) rfl ?_); refine box_event ?hg (N := 4) ?hd (cs := #[.slice none 0 0, .slice none 0 0]) (t := 60) ?hr ?_; (case hd => rfl); (case hg => rfl); (case hr => first | (go_simp; done) | (go_simp; rfl)); intro gf hg w7 hbox hb; have z0 : w7.cell? ⟨gf, 0, none⟩ = _ := cell_blk hbox rfl; have z1 : w7.cell? ⟨gf, 1, none⟩ = _ := cell_blk hbox rfl; have f0 := free_blk hbox 0; have f1 := free_blk hbox 1; have HF7 := Aside0.mk hbox; have HGF : Aside0 (w6.heap.size ≤ gf) := ⟨by rw [hg]; exact Nat.le_refl _⟩; have HB7 := Aside0.mk hb; clear hb hbox hg))
  obtain ⟨w8, hw8⟩ : ∃ w8, w8 = ((w7.setCell ⟨gf, 0, none⟩ (.slice Ad d6.length cd)).setCell ⟨gf, 1, none⟩ (.slice Ae r6.length ce)) := ⟨_, rfl⟩
  rw [← hw8]
  have hB8 : Below w6.heap.size w6 w8 := by
    rw [hw8]
    exact (((Chg.of_below HB7.out (fun b => w6.heap.size ≤ b)).set_ (p := ⟨gf, 0, none⟩) (.inl HGF.out) _).set_ (p := ⟨gf, 1, none⟩) (.inl HGF.out) _).below (fun k hk => hk) (Nat.le_refl _)
  have hF8 : w8.heap[gf]? = some (.cells #[.slice Ad d6.length cd, .slice Ae r6.length ce] 60 (0, 0)) := by rw [hw8]; exact set_blk (set_blk HF7.out 0 _) 1 _
  have HM8 := Aside0.mk (HM6.out.below hB8)
  have hz5 := HC6.out.size
  have hz6 := hB8.size
  have HZ8 := Aside0.mk (And.intro hz5 hz6)
  have HB8 := Aside0.mk hB8
  have HF8 := Aside0.mk hF8
  have HD8 := Aside0.mk (Kd.R_below HD6.out hB8)
  have hX8 := (hB8.block gt (Nat.lt_of_lt_of_le (blk_lt HX5.out) hz5)).trans (HC6.out.blk HX5.out (fun e => by have h1 : gt < w1.heap.size := e.2; have h2 := HGT.out; omega))
  have HX8 := Aside0.mk hX8
  have hA8 : Handed3 w8 (ownN (fun b => w.heap.size ≤ b ∧ b < w1.heap.size) w5.heap.size N6) A6 n6 [1, 1] A5 n5 [⟨0, 4, 0⟩] := by
    have h58 : Chg (fun b => w.heap.size ≤ b ∧ b < w1.heap.size) w5 w8 := HC6.out.trans (Chg.of_below hB8 _)
    have h1 := Kd.R_mono (Kd.R_bound (Kd.R_below HO4.out HB5.out)) (ok' := fun b => w1.heap.size ≤ b ∧ b < w5.heap.size) (fun x hx => ⟨hx.2.1, hx.2.2.1⟩)
    have h2 := Kd.R_mono (Kd.R_bound HO5.out) (ok' := fun b => w1.heap.size ≤ b ∧ b < w5.heap.size) (fun x hx => ⟨by have := hx.2.1; have := HZ.out; omega, hx.2.2.1⟩)
    refine Handed3.of_rows (h58.R h1 (fun x hx e => by have : x < w1.heap.size := e.2; omega)) (h58.R h2 (fun x hx e => by have : x < w1.heap.size := e.2; omega)) (fun b hb _ => ⟨fun _ h => ?_, fun _ h => ?_⟩) (by simp) (by simp)
    · rcases hb with hb | hb
      · have : b < w1.heap.size := hb.2
        omega
      · omega
    · rcases hb with hb | hb
      · have : b < w1.heap.size := hb.2
        omega
      · omega
  have HA8 := Aside0.mk hA8
  have t0 := cell_blk (j := 0) (u := .int .i64 2) hX8 rfl
  have t1 := cell_blk (j := 1) (u := .int .i64 1) hX8 rfl
  have t2 := cell_blk (j := 2) (u := .slice A6 2 n6) hX8 rfl
  clear hw8 hB8 hF8 hz5 hz6 hX8 hA8 z0 z1 f0 f1 HF7 HB7
  obtain ⟨e1, e2, e3, e4, e5, e6, e7⟩ := HG6.out
  have e1' := e1.trans told19_dist
  subst e1'
  have HE4 := Aside0.mk e4
  have HE6 := Aside0.mk e6
  have HE3 := Aside0.mk e3
  have HE7 := Aside0.mk e7
  have hown8 : ∀ b, ownN (fun b => w.heap.size ≤ b ∧ b < w1.heap.size) w5.heap.size N6 b → b < w8.heap.size := by
    have h1 := HN6.out
    have h2 := HZ8.out
    have h3 := HZ.out
    rintro b (hb | hb)
    · have : b < w1.heap.size := hb.2
      omega
    · omega
  have HOWN8 := Aside0.mk hown8
  clear e1 e2 e3 e4 e5 e6 e7 hown8 HG6
  go_upto_region 8 with (go_at_call 65; refine (get_calls HM8.out HOWN8.out HN6.out.2.2 (a := 5) (b := 6) (ver := 7) ⟨by omega, by omega⟩ ⟨by omega, by omega⟩ (by rw [HE3.out]; omega) (by rw [HE7.out]; unfold Cnt.ok cnt0; simp) HA8.out told19_ok).mono ?_; rintro e w9 ⟨d9, r9, Ax, cx, Ay, cy, rfl, sv9, s9, nw9, od9, D9, ord9, fv9, kvs9, kps9, c9, N9, sl9, had9, out9, hm, hn, hwn, hl, hc, hd, hr, hg⟩; rw [HE3.out] at hg; have HG9 := Aside0.mk (hg.again HE4.out HE6.out); have HM9 := Aside0.mk hm; have HC9 := Aside0.mk hc; clear hm hn hwn hl hc hd hr hg t0 t1 t2)
  have hnf : ¬ ownN (fun b => w.heap.size ≤ b ∧ b < w1.heap.size) w5.heap.size N6 gf := by
    have h1 := HN6.out
    have h2 := HZ8.out
    have h3 := HZ.out
    have h4 := HGF.out
    rintro (hb | hb)
    · have : gf < w1.heap.size := hb.2
      omega
    · omega
  have hf9 := HC9.out.blk HF8.out hnf
  have q0 := cell_blk (j := 0) (u := .slice Ad 2 cd) hf9 rfl
  have hd9 := HC9.out.R (Kd.R_bound HD8.out) (fun x hx e => by
    have h1 := HN6.out
    have h2 := HZ8.out
    have h3 := HZ.out
    have h4 : N6 ≤ x := hx.2.1
    rcases e with hb | hb
    · have : x < w1.heap.size := hb.2
      omega
    · omega)
  have HD9 := Aside0.mk (R_C hd9)
  obtain ⟨_, _, _, e4⟩ := HG9.out
  have e5 := e4.trans (by rw [HE7.out])
  have HC99 := Aside0.mk e5
  have hcv : cntV c9 = .agg #[.int .u64 0, .int .u64 0, .int .u64 1, .int .u64 1, .int .u64 0, .int .u64 0] := by rw [e5]; rfl
  have HCV := Aside0.mk hcv
  have hz9 := HC9.out.size
  have HB9 : Aside0 (Below w.heap.size w w9) := ⟨by
    have h1 := HN6.out
    have h2 := HZ8.out
    have h3 := HZ.out
    have h4 := HB1.out.size
    have h14 := below_step HB4.out HB5.out
    have hc15 : Chg (fun b => w.heap.size ≤ b) w w5 := Chg.of_below (below_step HB1.out h14) _
    have hc16 := hc15.then_ HC6.out (fun x hx => .inl hx.1)
    have hc18 := hc16.then_ (Chg.of_below HB8.out (fun _ => False)) (fun _ h => h.elim)
    have hc19 := hc18.then_ HC9.out (fun x hx => by
      rcases hx with hx | hx
      · exact .inl hx.1
      · exact .inl (show w.heap.size ≤ x by omega))
    exact hc19.below (fun k hk => hk) (Nat.le_refl _)⟩
  clear hnf hf9 hd9 e4 e5 hcv hz9
  go_wp2_with (first
    | (go_at_call 51; refine (ints2_calls Ad cd 0 1 w9 HD9.out.1 HD9.out.2).mono ?_; rintro e w10 ⟨rfl, hb⟩; have HB10 := Aside0.mk hb; clear hb)
    | (go_at_call 67; refine (countS_calls (HM9.out.below (below_step (below_alloc (Below.refl _ _) _) HB10.out))).mono ?_; rintro e w11 ⟨he, hb⟩; rw [HCV.out] at he; subst he; have HB11 := Aside0.mk hb; clear hb))
  go_ret
  exact ⟨rfl, below_step HB9.out (below_step (below_step (below_alloc (Below.refl _ _) _) HB10.out) HB11.out)⟩
end Go.Proofs.Ytgcfcemgeppkmaa.P
namespace Go.Proofs.Ytgcfcemgeppkmaa.P
open Go.RowKit Go.Proofs.YtgcfcemgeppkmaaW.PrintWords Go.Proofs.YtgcfcemgeppkmaaW.PrintLast Go.Proofs.YtgcfcemgeppkmaaW.PrintMore
open Go.Proofs.Ytgcfcemgeppkmaa.Dist
set_option linter.unusedVariables false
set_option linter.unusedSimpArgs false
attribute [local go_sem high] eqStats
theorem cnt0_V : cntV cnt0 = .agg #[.int .u64 0, .int .u64 0, .int .u64 0, .int .u64 0, .int .u64 0, .int .u64 0] := rfl
set_option maxRecDepth 100000 in
set_option maxHeartbeats 4000000 in
theorem shelfNone_calls (k a b ver W0 H0 : Int) (A0 : Option Addr) (c0 : Nat) (l0 : List Int) (A4 : Option Addr) (c4 : Nat) (l4 : List Seed) (w : World) (hr0 : Kd.C (Kd.int .u8) w A0 l0.length l0) (hc0 : l0.length ≤ c0) (hr4 : Kd.C k25 w A4 l4.length l4) (hc4 : l4.length ≤ c4) (hb0 : ∀ x ∈ l0, 0 ≤ x ∧ x ≤ 255) :
    Calls Try.prog 27 #[.int .i64 k, .int .i64 a, .int .i64 b, .int .i64 ver, .agg #[.int .i64 W0, .int .i64 H0, .slice A0 l0.length c0], .slice A4 l4.length c4] w fun e w' => e = .returned (.bool true) ∧ Below w.heap.size w w' := by
  have HR0 := Aside0.mk hr0
  have HC0 := Aside0.mk hc0
  have HR4 := Aside0.mk hr4
  have HC4 := Aside0.mk hc4
  have HB0 := Aside0.mk hb0
  clear hr0 hc0 hr4 hc4 hb0
  by_cases h6 : l0.length ≤ 600 ∧ l4.length ≤ 40
  · obtain ⟨h600, h40⟩ := h6
    have d1 : decide (600 < (l0.length : Int)) = false := decide_eq_false (by omega)
    have d2 : decide (600 < l0.length) = false := decide_eq_false (by omega)
    have d3 : decide (40 < (l4.length : Int)) = false := decide_eq_false (by omega)
    have d4 : decide (40 < l4.length) = false := decide_eq_false (by omega)
    have HMY := Aside0.mk (maySeedsA W0 H0 l0 (by omega) l4 (by omega) 5000 (by omega))
    have H600 := Aside0.mk (And.intro h600 h40)
    clear h600 h40
    go_enter Try.func27, Try.ntmps27
    go_upto_region 5 with (first
      | ((with_reducible refine gate_dst (N := 10) rfl ?_); refine box_event ?hg (N := 10) ?hd (cs := #[.int .i64 W0, .int .i64 H0, .slice A0 l0.length c0]) (t := 35) ?hr ?_; (case hd => rfl); (case hg => rfl); (case hr => first | (go_simp; done) | (go_simp; rfl)); intro gp hg w1 hbox hb; have p0 : w1.cell? ⟨gp, 0, none⟩ = _ := cell_blk hbox rfl; have p1 : w1.cell? ⟨gp, 1, none⟩ = _ := cell_blk hbox rfl; have p2 : w1.cell? ⟨gp, 2, none⟩ = _ := cell_blk hbox rfl; have HP1 := Aside0.mk hbox; have HB1 := Aside0.mk hb; clear hbox hb hg)
      | (go_at_call 65; refine (get_nil _ a b ver W0 H0 A0 l0.length c0 A4 l4.length c4).mono ?_; rintro e w2 ⟨rfl, hb⟩; have HP2 := Aside0.mk (blk_step HP1.out hb); have HB2 := Aside0.mk (below_step HB1.out hb); clear hb p0 p1 p2)
      | ((with_reducible refine gate_dst (N := 14) rfl ?_); refine box_event ?hg (N := 14) ?hd (cs := #[.slice none 0 0, .slice none 0 0]) (t := 60) ?hr ?_; (case hd => rfl); (case hg => rfl); (case hr => first | (go_simp; done) | (go_simp; rfl)); intro gf hg w3 hbox hb; have z0 : w3.cell? ⟨gf, 0, none⟩ = _ := cell_blk hbox rfl; have z1 : w3.cell? ⟨gf, 1, none⟩ = _ := cell_blk hbox rfl; have f0 := free_blk hbox 0; have f1 := free_blk hbox 1; have HF3 := Aside0.mk hbox; have HGF : Aside0 (w2.heap.size ≤ gf) := ⟨by rw [hg]; exact Nat.le_refl _⟩; have HB3 := Aside0.mk hb; clear hb hbox hg))
    obtain ⟨w4, hw4⟩ : ∃ w4, w4 = ((w3.setCell ⟨gf, 0, none⟩ (.slice none 0 0)).setCell ⟨gf, 1, none⟩ (.slice none 0 0)) := ⟨_, rfl⟩
    rw [← hw4]
    have hB4 : Below w2.heap.size w2 w4 := by
      rw [hw4]
      exact (((Chg.of_below HB3.out (fun b => w2.heap.size ≤ b)).set_ (p := ⟨gf, 0, none⟩) (.inl HGF.out) _).set_ (p := ⟨gf, 1, none⟩) (.inl HGF.out) _).below (fun k hk => hk) (Nat.le_refl _)
    have hF4 : w4.heap[gf]? = some (.cells #[.slice none 0 0, .slice none 0 0] 60 (0, 0)) := by rw [hw4]; exact set_blk (set_blk HF3.out 0 _) 1 _
    have HF4 := Aside0.mk hF4
    have HP4 := Aside0.mk (blk_step HP2.out hB4)
    have HB4 := Aside0.mk (below_step HB2.out hB4)
    clear hw4 hB4 hF4 z0 z1 f0 f1 HF3 HB3 HGF HP2 HB2 HP1 HB1
    by_cases hk : k < 1
    · have dk : decide (k < 1) = true := decide_eq_true hk
      have q0 := cell_blk (j := 0) (u := .slice none 0 0) HF4.out rfl
      go_wp2_with (first
        | (go_at_call 68; refine (flushS_nil _).mono ?_; rintro e w5 ⟨rfl, rfl⟩)
        | (go_at_call 64; refine (newS_none k hk _).mono ?_; rintro e w5 ⟨rfl, rfl⟩)
        | (go_at_call 71; refine (keysS_nil _).mono ?_; rintro e w5 ⟨rfl, rfl⟩)
        | (go_at_call 67; refine (countS_nil _).mono ?_; rintro e w6 ⟨he, hb⟩; rw [cnt0_V] at he; subst he; have HB6 := Aside0.mk hb; clear hb)
        | (go_at_call 66; refine (told19_calls _).mono ?_; rintro e w7 ⟨rfl, hb⟩; have HB7 := Aside0.mk hb; clear hb))
      go_ret
      exact ⟨rfl, below_step HB4.out (below_step HB6.out HB7.out)⟩
    · have dk : decide (k < 1) = false := decide_eq_false hk
      have q0 := cell_blk (j := 0) (u := .slice none 0 0) HF4.out rfl
      go_upto_region 9 with (first
        | (go_at_call 68; refine (flushS_nil _).mono ?_; rintro e w5 ⟨rfl, rfl⟩)
        | (go_at_call 64; refine (newS_calls k (by omega) _).mono ?_; rintro e w5 ⟨sb, lb, mb, rfl, hs, hb⟩; have HS5 := Aside0.mk hs; have HB5 := Aside0.mk hb; have q0 := pw_cell_below hb q0; clear hs hb)
        | (go_at_call 71; refine (keysS_nil _).mono ?_; rintro e w5 ⟨rfl, rfl⟩)
        | (go_at_call 67; refine (countS_nil _).mono ?_; rintro e w6 ⟨he, hb⟩; rw [cnt0_V] at he; subst he; have HB6 := Aside0.mk hb; clear hb))
      have HB46 := Aside0.mk (below_step HB5.out HB6.out)
      have hP6 := blk_step HP4.out HB46.out
      have HP6 := Aside0.mk hP6
      have p0 := cell_blk (j := 0) (u := .int .i64 W0) hP6 rfl
      have p1 := cell_blk (j := 1) (u := .int .i64 H0) hP6 rfl
      have p2 := cell_blk (j := 2) (u := .slice A0 l0.length c0) hP6 rfl
      have HB := Aside0.mk (below_step HB4.out HB46.out)
      have HS6 := Aside0.mk (ShelfM.below HS5.out HB6.out)
      clear hP6 q0 HB46 HB4 HP4 HF4 HB5 HS5
      by_cases hs : SeedsOk W0 H0 l0 l4
      · have hm : herdsmanref7_MaySeeds.f 5000 W0 H0 l0 l4 = some true := HMY.out.trans (by simp [hs])
        have HM := Aside0.mk hm
        clear hm hs
        go_wp2_with (first
          | (go_at_call 40; refine (herdsmanref7_MaySeeds.calls 5000 W0 H0 A0 c0 l0 A4 c4 l4 true _ (Kd.C_below HR0.out HB.out) HC0.out (Kd.C_below HR4.out HB.out) HC4.out HM.out).mono ?_; rintro e w7 ⟨rfl, hb⟩; have HB7 := Aside0.mk (below_step HB.out hb); clear hb)
          | (go_at_call 66; refine (told19_calls _).mono ?_; rintro e w8 ⟨rfl, hb⟩; have HB8 := Aside0.mk (below_step HB7.out hb); clear hb))
        go_ret
        exact ⟨rfl, HB8.out⟩
      · have hm : herdsmanref7_MaySeeds.f 5000 W0 H0 l0 l4 = some false := HMY.out.trans (by simp [hs])
        have HM := Aside0.mk hm
        have HSN := Aside0.mk hs
        clear hm hs
        go_upto_region 12 with (first
          | (go_at_call 40; refine (herdsmanref7_MaySeeds.calls 5000 W0 H0 A0 c0 l0 A4 c4 l4 false _ (Kd.C_below HR0.out HB.out) HC0.out (Kd.C_below HR4.out HB.out) HC4.out HM.out).mono ?_; rintro e w7 ⟨rfl, hb⟩; have HB7 := Aside0.mk (below_step HB.out hb); have HS7 := Aside0.mk (ShelfM.below HS6.out hb); have p0 := pw_cell_below hb p0; have p1 := pw_cell_below hb p1; have p2 := pw_cell_below hb p2; clear hb)
          | (go_at_call 65; refine (get_no sb _ a b ver (own := fun _ => False) (C := l0) (s := l4) ⟨Kd.C_below HR0.out HB7.out, HC0.out, Kd.C_below HR4.out HB7.out, HC4.out, fun _ _ _ h => h, fun _ _ _ h => h, HB0.out, by have := H600.out; omega, by have := H600.out; omega⟩ HSN.out).mono ?_; rintro e w8 ⟨rfl, hb⟩; have HB8 := Aside0.mk (below_step HB7.out hb); have HS8 := Aside0.mk (ShelfM.below HS7.out hb); clear hb p0 p1 p2)
          | ((with_reducible refine gate_dst (N := 17) rfl ?_); refine box_event ?hg (N := 17) ?hd (cs := #[.slice none 0 0, .slice none 0 0]) (t := 60) ?hr ?_; (case hd => rfl); (case hg => rfl); (case hr => first | (go_simp; done) | (go_simp; rfl)); intro gg hg w9 hbox hb; have z0 : w9.cell? ⟨gg, 0, none⟩ = _ := cell_blk hbox rfl; have z1 : w9.cell? ⟨gg, 1, none⟩ = _ := cell_blk hbox rfl; have f0 := free_blk hbox 0; have f1 := free_blk hbox 1; have HF9 := Aside0.mk hbox; have HG9 : Aside0 (w8.heap.size ≤ gg) := ⟨by rw [hg]; exact Nat.le_refl _⟩; have HB9 := Aside0.mk hb; clear hb hbox hg))
        obtain ⟨w10, hw10⟩ : ∃ w10, w10 = ((w9.setCell ⟨gg, 0, none⟩ (.slice none 0 0)).setCell ⟨gg, 1, none⟩ (.slice none 0 0)) := ⟨_, rfl⟩
        rw [← hw10]
        have hB10 : Below w8.heap.size w8 w10 := by
          rw [hw10]
          exact (((Chg.of_below HB9.out (fun b => w8.heap.size ≤ b)).set_ (p := ⟨gg, 0, none⟩) (.inl HG9.out) _).set_ (p := ⟨gg, 1, none⟩) (.inl HG9.out) _).below (fun k hk => hk) (Nat.le_refl _)
        have hF10 : w10.heap[gg]? = some (.cells #[.slice none 0 0, .slice none 0 0] 60 (0, 0)) := by rw [hw10]; exact set_blk (set_blk HF9.out 0 _) 1 _
        have HB10 := Aside0.mk (below_step HB8.out hB10)
        have HS10 := Aside0.mk (ShelfM.below HS8.out hB10)
        have q0 := cell_blk (j := 0) (u := .slice none 0 0) hF10 rfl
        have q1 := cell_blk (j := 1) (u := .slice none 0 0) hF10 rfl
        clear hw10 hB10 hF10 z0 z1 f0 f1 HF9 HB9 HG9
        go_wp2_with (first
          | (go_at_call 66; refine (told19_calls _).mono ?_; rintro e w11 ⟨rfl, hb⟩; have HB11 := Aside0.mk (below_step HB10.out hb); have HS11 := Aside0.mk (ShelfM.below HS10.out hb); have q0 := pw_cell_below hb q0; have q1 := pw_cell_below hb q1; clear hb)
          | (go_at_call 71; refine (keysS_calls HS11.out (by simp)).mono ?_; rintro e w12 ⟨v12, rfl, ho, hb⟩; obtain ⟨A12, n12, rfl⟩ := Kd.R_slice ho; have HB12 := Aside0.mk (below_step HB11.out hb); have HS12 := Aside0.mk (ShelfM.below HS11.out hb); clear ho hb)
          | (go_at_call 67; refine (countS_calls HS12.out).mono ?_; rintro e w13 ⟨he, hb⟩; rw [cnt0_V] at he; subst he; have HB13 := Aside0.mk (below_step HB12.out hb); clear hb))
        go_ret
        exact ⟨rfl, HB13.out⟩
  · have told : ∀ (h : 600 < l0.length ∨ 600 ≥ l0.length ∧ 40 < l4.length), Calls Try.prog 27 #[.int .i64 k, .int .i64 a, .int .i64 b, .int .i64 ver, .agg #[.int .i64 W0, .int .i64 H0, .slice A0 l0.length c0], .slice A4 l4.length c4] w fun e w' => e = .returned (.bool true) ∧ Below w.heap.size w w' := by
      intro h
      rcases h with h | ⟨h0, h⟩
      case' inl =>
        have d1 : decide (600 < (l0.length : Int)) = true := decide_eq_true (by omega)
        have d2 : decide (600 < l0.length) = true := decide_eq_true (by omega)
      case' inr =>
        have d1 : decide (600 < (l0.length : Int)) = false := decide_eq_false (by omega)
        have d2 : decide (600 < l0.length) = false := decide_eq_false (by omega)
        have d3 : decide (40 < (l4.length : Int)) = true := decide_eq_true (by omega)
        have d4 : decide (40 < l4.length) = true := decide_eq_true (by omega)
      all_goals
        go_enter Try.func27, Try.ntmps27
        go_wp2_with (first
          | ((with_reducible refine gate_dst (N := 10) rfl ?_); refine box_event ?hg (N := 10) ?hd (cs := #[.int .i64 W0, .int .i64 H0, .slice A0 l0.length c0]) (t := 35) ?hr ?_; (case hd => rfl); (case hg => rfl); (case hr => first | (go_simp; done) | (go_simp; rfl)); intro gp hg w1 hbox hb; have p0 : w1.cell? ⟨gp, 0, none⟩ = _ := cell_blk hbox rfl; have p1 : w1.cell? ⟨gp, 1, none⟩ = _ := cell_blk hbox rfl; have p2 : w1.cell? ⟨gp, 2, none⟩ = _ := cell_blk hbox rfl; have HB1 := Aside0.mk hb; clear hbox hb hg)
          | (go_at_call 66; refine (told19_calls _).mono ?_; rintro e w10 ⟨rfl, hb⟩; have HB10 := Aside0.mk (below_step HB1.out hb); clear hb))
        go_ret
        exact ⟨rfl, HB10.out⟩
    exact told (by omega)
/-- As the row's form wants it. -/
noncomputable def shelfNoneH.f (n : Nat) (k a b ver W0 H0 : Int) (l0 : List Int) (l4 : List Seed) : Option Bool := open Classical in if ∀ x ∈ l0, 0 ≤ x ∧ x ≤ 255 then some true else none
theorem shelfNoneH.calls (n : Nat) (k a b ver W0 H0 : Int) (A0 : Option Addr) (c0 : Nat) (l0 : List Int) (A4 : Option Addr) (c4 : Nat) (l4 : List Seed) (r : Bool) (w : World) (hr0 : Kd.C (Kd.int .u8) w A0 l0.length l0) (hc0 : l0.length ≤ c0) (hr4 : Kd.C k25 w A4 l4.length l4) (hc4 : l4.length ≤ c4) (h : shelfNoneH.f n k a b ver W0 H0 l0 l4 = some r) :
    Calls Try.prog 27 #[.int .i64 k, .int .i64 a, .int .i64 b, .int .i64 ver, .agg #[.int .i64 W0, .int .i64 H0, .slice A0 l0.length c0], .slice A4 l4.length c4] w fun e w' => e = .returned (.bool r) ∧ Below w.heap.size w w' := by
  unfold shelfNoneH.f at h
  split at h
  · rename_i hb
    obtain rfl := Option.some.inj h
    exact shelfNone_calls k a b ver W0 H0 A0 c0 l0 A4 c4 l4 w hr0 hc0 hr4 hc4 hb
  · exact absurd h (by simp)
end Go.Proofs.Ytgcfcemgeppkmaa.P
