/-
  herdsmanref18: Keys, SameKeys, the shelf's Get.
-/
import Derived.Test.YtgcfcemgeppkmaaXRef18
import Derived.ChangeKeysEq
import Derived.StillTailTactics
import Derived.Test.YtgcfcemgeppkmaaPx19
import Derived.Test.YtgcfcemgeppkmaaXMayA
namespace Go.Proofs.Ytgcfcemgeppkmaa.P
open Go.RowKit Go.Proofs.YtgcfcemgeppkmaaW.PrintWords Go.Proofs.YtgcfcemgeppkmaaW.PrintLast Go.Proofs.YtgcfcemgeppkmaaW.PrintMore
open Go.Proofs.Ytgcfcemgeppkmaa.Ord Go.Proofs.Ytgcfcemgeppkmaa.Dist
set_option linter.unusedVariables false
set_option linter.unusedSimpArgs false
variable {w w' : World} {own own' S : Nat → Prop} {rb : Nat} {K : Int} {v : Value} {Z : List (Rv × RP)} {c : Cnt}
theorem eqKey (d : Nat) (w : World) (a b a' b' : Int) : (Op.equalIn (d + 2) 86 (.agg #[.int .i64 a, .int .i64 b]) (.agg #[.int .i64 a', .int .i64 b'])).run Try.prog w = .ok (a == a' && b == b') w := by
  obtain ⟨i, hi, _, _, _⟩ := info_parts info3
  have c1 : Try.prog.cellsOf 3 = 1 := by kernel_rfl
  rw [run_equalIn_array w (d + 1) _ _ Try.underlying86 hi, c1]
  have hl : List.range 2 = [0, 1] := rfl
  rw [hl]
  have p0 : (part 3 #[Value.int .i64 a, .int .i64 b] (0 * 1)).run Try.prog w = .ok (.int .i64 a) w := by go_simp
  have p1 : (part 3 #[Value.int .i64 a, .int .i64 b] (1 * 1)).run Try.prog w = .ok (.int .i64 b) w := by go_simp
  have p2 : (part 3 #[Value.int .i64 a', .int .i64 b'] (0 * 1)).run Try.prog w = .ok (.int .i64 a') w := by go_simp
  have p3 : (part 3 #[Value.int .i64 a', .int .i64 b'] (1 * 1)).run Try.prog w = .ok (.int .i64 b') w := by go_simp
  have e0 : (Op.equalIn (d + 1) 3 (.int .i64 a) (.int .i64 a')).run Try.prog w = .ok (a == a') w := by go_simp
  have e1 : (Op.equalIn (d + 1) 3 (.int .i64 b) (.int .i64 b')).run Try.prog w = .ok (b == b') w := by go_simp
  rw [Op.eqItems, Sem.run_bind, p0, Result.andThen_ok, Sem.run_bind, p2, Result.andThen_ok, Sem.run_bind, e0, Result.andThen_ok]
  rw [Op.eqItems]
  cases a == a'
  · simp
  · have hnil : Op.eqItems (d + 1) 3 1 #[Value.int .i64 a, .int .i64 b] #[Value.int .i64 a', .int .i64 b'] [] = pure true := rfl
    rw [if_neg (by simp), Sem.run_bind, p1, Result.andThen_ok, Sem.run_bind, p3, Result.andThen_ok, Sem.run_bind, e1, Result.andThen_ok, hnil]
    cases b == b' <;> simp
attribute [local go_sem high] eqKey
set_option maxRecDepth 100000 in
set_option maxHeartbeats 4000000 in
theorem keysR_calls (h : RSh w own rb K v Z c) (hZ : Z.length ≤ 1000) :
    Calls Try.prog 72 #[.pointer (some ⟨rb, 0, none⟩)] w fun e w' => ∃ v, e = .returned v ∧ Kd.R kKey 86 w' w.heap.size (fun _ => True) v (Z.map fun z => (z.2.a, z.2.b)) ∧ Below w.heap.size w w' := by
  have HM := Aside0.mk h
  have HZ := Aside0.mk hZ
  obtain ⟨L, hL⟩ : ∃ L, L = Z.map (·.1) := ⟨_, rfl⟩
  have hLZ : L.length = Z.length := by rw [hL, List.length_map]
  have hrow := h.row
  rw [← hL] at hrow
  obtain ⟨A, cap, ev⟩ := Kd.R_slice hrow
  subst ev
  have HROW := Aside0.mk hrow
  have HLZ := Aside0.mk hLZ
  have HL := Aside0.mk hL
  clear h hrow hLZ hL hZ
  go_enter Try.func72, Try.ntmps72
  go_wp2_with fail
  go_loopg [3, 4] L.length (fun gg v3 v4 wr => ∃ i : Nat, v4 = .int .i64 i ∧ i ≤ L.length ∧ L.length - i ≤ gg ∧ Aside0 (Kd.R kKey 86 wr w.heap.size (fun _ => True) v3 ((L.take i).map fun x => (x.a, x.b))) ∧ Aside0 (Below w.heap.size w wr))
  case atStart => exact ⟨0, rfl, Nat.zero_le _, Nat.le_refl _, ⟨Kd.R_nil _ _ _ _ _⟩, ⟨Below.refl _ _⟩⟩
  case round =>
    obtain ⟨i, rfl, hi, hgg, LR, LB⟩ := hrel
    have c1 := cell_blk (j := 1) (u := .slice A L.length cap) (blk_step HM.out.blk LB.out) rfl
    by_cases hlt : i < L.length
    · have hlt2 : (i : Int) < (L.length : Int) := by omega
      have hi0 : (0 : Int) ≤ (i : Int) := by omega
      obtain ⟨ad, hA, a0, a1, yr⟩ := rv_at (R_C HROW.out).1 hlt
      subst hA
      obtain ⟨x, hx⟩ : ∃ x, x = L[i] := ⟨_, rfl⟩
      rw [← hx] at a0 a1
      have y0 := pw_cell_below LB.out a0
      have y1 := pw_cell_below LB.out a1
      have XW := Aside0.mk (And.intro (cell_blk (j := 1) (u := .slice (some ad) L.length cap) HM.out.blk rfl) (And.intro a0 a1))
      clear a0 a1
      have HX := Aside0.mk hx
      have HI := Aside0.mk (And.intro hi (And.intro hgg hlt))
      obtain ⟨Ar, cr, er⟩ := Kd.R_slice LR.out
      have hlen : ((L.take i).map fun x => (x.a, x.b)).length = i := by rw [List.length_map, List.length_take]; omega
      rw [hlen] at er
      subst er
      have HLEN := Aside0.mk hlen
      clear yr hx hi hgg hlen
      go_upto_region 5 with fail
      have XC := Aside0.mk (And.intro c1 (And.intro y0 y1))
      have HR0 : Aside0 (Below wr.heap.size wr wr) := ⟨Below.refl _ _⟩
      go_region_held3 (fun w' => w'.cell? ⟨rb, 1, none⟩ = some (.slice (some ad) L.length cap) ∧ w'.cell? (ad.add (i * 6)) = some (.int .i64 x.a) ∧ w'.cell? ⟨(ad.add (i * 6)).block, (ad.add (i * 6)).off + 1, none⟩ = some (.int .i64 x.b))
        (first | with_reducible exact ⟨c1, y0, y1⟩ | ((with_reducible refine ⟨pw_cell_below ?_ XC.out.1, pw_cell_below ?_ XC.out.2.1, pw_cell_below ?_ XC.out.2.2⟩) <;> ((repeat (first | exact HR0.out | apply below_alloc | apply pw_below_drewN | apply below_drew1)); done)) | ((with_reducible refine ⟨pw_cell_below ?_ XW.out.1, pw_cell_below ?_ XW.out.2.1, pw_cell_below ?_ XW.out.2.2⟩) <;> exact HB6.out) | go_keep)
        (first
          | (refine Kd.R_append_step kKey (w0 := w) w.heap.size (by rfl) (.tmp 14) (.tmp 32) 84 86 (.agg #[.int .i64 0, .int .i64 0]) 16 rfl Try.underlying84 infoKey rfl (by decide) (by omega) (.slice Ar i cr) ((L.take i).map fun x => (x.a, x.b)) (x.a, x.b) [.int .i64 x.a, .int .i64 x.b] (fun _ => True) (fun _ => False) (by rfl) (by rfl) (kKey_mkM _ _ _ (x.a, x.b)) (fun _ hk => hk.elim) (fun _ _ => trivial) (Kd.R_drew LR.out) (below_drew1 LB.out) LB.out.size (by have h1 := HLEN.out; have h2 := HI.out; have h3 := HLZ.out; have h4 := HZ.out; omega) ?_; intro v6 w6 ho hb hg hat; have HB6 := Aside0.mk hb; have HO6 := Aside0.mk ho; clear ho hb hg hat))
      go_wp2_with fail
      go_roundg (L.length - (i + 1))
      case measure => have := HI.out; omega
      case rel =>
        have hII := HI.out
        have hLL := HLZ.out
        have hZZ := HZ.out
        refine ⟨i + 1, by first | rfl | (rw [w64 (n := (i : Int) + 1) (by omega) (by omega)]; rfl), by omega, Nat.le_refl _, ⟨?_⟩, HB6⟩
        have h6 := HO6.out
        rw [List.take_succ_eq_append_getElem hII.2.2, List.map_append, List.map_cons, List.map_nil, ← HX.out]
        exact h6
    · have hi2 : i = L.length := by omega
      subst hi2
      have hlt2 : decide (((L.length : Nat) : Int) < (L.length : Int)) = false := by simp
      go_wp2_with fail
      go_ret
      refine ⟨_, rfl, ?_, LB.out⟩
      have h6 := LR.out
      rw [List.take_length, HL.out, List.map_map] at h6
      have he : (Z.map ((fun x : Rv => (x.a, x.b)) ∘ fun z : Rv × RP => z.1)) = Z.map fun z => (z.2.a, z.2.b) := List.map_congr_left (fun z hz => by
        have h1 := HM.out.mean z hz
        simp only [Function.comp, h1.a, h1.b])
      rw [he] at h6
      exact h6
theorem key_at {A : Option Addr} {xs : List (Int × Int)} (h : Kd.C kKey w A xs.length xs) {i : Nat} (hi : i < xs.length) : ∃ ad, A = some ad ∧ w.cell? (ad.add (i * 2)) = some (.int .i64 xs[i].1) ∧ w.cell? ⟨(ad.add (i * 2)).block, (ad.add (i * 2)).off + 1, none⟩ = some (.int .i64 xs[i].2) := by
  obtain ⟨ad, cs, e, _, hK, hc0⟩ := Kd.C_get h ((0, 0) : Int × Int) (i : Int) (by omega) (by omega)
  have hg : xs.getD (i : Int).toNat (0, 0) = xs[i] := by rw [Int.toNat_natCast, List.getD_eq_getElem?_getD, List.getElem?_eq_getElem hi]; rfl
  rw [hg] at hK
  have hk := kKey_open hK
  subst hk
  have hc : ∀ j u, [Value.int .i64 xs[i].1, .int .i64 xs[i].2][j]? = some u → w.cell? (ad.add (i * 2 + j)) = some u := hc0
  exact ⟨ad, e, hc 0 _ rfl, by rw [← add_field _ _ 1 (by omega)]; exact hc 1 _ rfl⟩
set_option maxRecDepth 100000 in
set_option maxHeartbeats 4000000 in
theorem sameKeys_calls (A B : Option Addr) (ca cb : Nat) (xs : List (Int × Int)) (h1 : Kd.C kKey w A xs.length xs) (hca : xs.length ≤ ca) (h2 : Kd.C kKey w B xs.length xs) (hcb : xs.length ≤ cb) (hl : xs.length ≤ 1000) :
    Calls Try.prog 70 #[.slice A xs.length ca, .slice B xs.length cb] w fun e w' => e = .returned (.bool true) ∧ Below w.heap.size w w' := by
  have H1 := Aside0.mk h1
  have H2 := Aside0.mk h2
  have HL := Aside0.mk hl
  clear h1 h2 hca hcb hl
  go_enter Try.func70, Try.ntmps70
  go_wp2_with fail
  go_loopg [5] xs.length (fun gg v5 wr => ∃ i : Nat, v5 = .int .i64 i ∧ i ≤ xs.length ∧ xs.length - i ≤ gg ∧ Aside0 (Below w.heap.size w wr))
  case atStart => exact ⟨0, rfl, Nat.zero_le _, Nat.le_refl _, ⟨Below.refl _ _⟩⟩
  case round =>
    obtain ⟨i, rfl, hi, hgg, LB⟩ := hrel
    by_cases hlt : i < xs.length
    · have hlt2 : (i : Int) < (xs.length : Int) := by omega
      have hi0 : (0 : Int) ≤ (i : Int) := by omega
      obtain ⟨ad, hA, y0, y1⟩ := key_at (Kd.C_below H1.out LB.out) hlt
      obtain ⟨bd, hB, z0, z1⟩ := key_at (Kd.C_below H2.out LB.out) hlt
      subst hA
      subst hB
      generalize xs[i] = x at *
      have HI := Aside0.mk (And.intro hi (And.intro hgg hlt))
      clear hi hgg hlt
      go_upto_region 6 with fail
      go_quiet (fail)
      have HB2 : Aside0 (Below w.heap.size w (wr.drewN nq)) := ⟨pw_below_drewN LB.out nq⟩
      go_wp2_with fail
      go_roundg (xs.length - (i + 1))
      case measure => have := HI.out; omega
      case rel =>
        have hII := HI.out
        have hLL := HL.out
        exact ⟨i + 1, by first | rfl | (rw [w64 (n := (i : Int) + 1) (by omega) (by omega)]; rfl), by omega, Nat.le_refl _, HB2⟩
    · have hi2 : i = xs.length := by omega
      subst hi2
      have hlt2 : decide (((xs.length : Nat) : Int) < (xs.length : Int)) = false := by simp
      go_wp2_with fail
      go_ret
      exact ⟨rfl, LB.out⟩
theorem rv_head {A : Option Addr} {base n : Nat} {ok : Nat → Prop} {x : Rv} {L : List Rv} (h : Kd.R kRv 127 w base ok (.slice A (x :: L).length n) (x :: L)) : ∃ g, A = some ⟨g, 0, none⟩ ∧ w.cell? ⟨g, 4, none⟩ = some (.slice x.dA x.dn x.dc) ∧ w.cell? ⟨g, 5, none⟩ = some (.slice x.rA x.rn x.rc) := by
  obtain ⟨ad, cs, e, _, hK, hc⟩ := Kd.C_get (R_C h).1 default 0 (by omega) (by simp only [List.length_cons]; omega)
  subst e
  obtain ⟨g, rfl⟩ := Kd.R_head h
  have hk : cs = encR x := hK
  subst hk
  have h4 := hc 4 _ rfl
  have h5 := hc 5 _ rfl
  have e4 : (0 : Int).toNat * kRv.sz + 4 = 4 := rfl
  have e5 : (0 : Int).toNat * kRv.sz + 5 = 5 := rfl
  rw [e4, add_plain] at h4
  rw [e5, add_plain] at h5
  exact ⟨g, rfl, h4, h5⟩
set_option maxRecDepth 100000 in
set_option maxHeartbeats 8000000 in
theorem getR_calls (h : RSh w own rb K v Z c) (hown : ∀ b, own b → b < w.heap.size) {a b ver W H : Int} {At : Option Addr} {ct : Nat} {C : List Int} {As : Option Addr} {cs : Nat} {s : List Seed} (hA : Handed3 w own At ct C As cs s) (hok : SeedsOk W H C s) {n : Nat} {D E : List Int} (hRF : herdsmanref7_Field.f n W H C s = some (D, E)) (hDE : D.length ≤ 1000 ∧ E.length ≤ 1000) (hZ : Z.length ≤ 1000) (hK : 1 ≤ K ∧ K ≤ 1000) (cok : c.ok) :
    Calls Try.prog 69 #[.pointer (some ⟨rb, 0, none⟩), .int .i64 a, .int .i64 b, .int .i64 ver, .agg #[.int .i64 W, .int .i64 H, .slice At C.length ct], .slice As s.length cs] w fun e' w' => ∃ (x0 : Rv) (st : AS), st = askF a b ver s (x0, ⟨a, b, ver, s, D, E⟩) Z ∧ e' = .returned (.tuple #[.agg #[.slice st.x.1.dA st.x.1.dn st.x.1.dc, .slice st.x.1.rA st.x.1.rn st.x.1.rc], .int .i64 0]) ∧ ∃ v' own', RSh w' own' rb K v' (st.x :: askR K st) (askC K st c) ∧ (∀ k, own' k → own k ∨ (w.heap.size ≤ k ∧ k < w'.heap.size)) ∧ Chg own w w' := by
  have hmay : herdsmanref7_MaySeeds.f 5000 W H C s = some true := (maySeedsA W H C (by have := hA.tlen; omega) s (by have := hA.slen; omega) 5000 (by have h1 := hA.tlen; have h2 := hA.slen; omega)).trans (by simp [hok])
  have HM := Aside0.mk h
  have HOWN := Aside0.mk hown
  have HA := Aside0.mk hA
  have HOK := Aside0.mk hok
  have HRF := Aside0.mk hRF
  have HDE := Aside0.mk hDE
  have HZ := Aside0.mk hZ
  have HK := Aside0.mk hK
  have COK := Aside0.mk cok
  have HMAY := Aside0.mk hmay
  clear h hown hA hok hRF hDE hZ hK cok hmay
  go_enter Try.func69, Try.ntmps69
  go_upto_region 1 with (first
    | ((with_reducible refine gate_dst (N := 10) rfl ?_); refine box_event ?hg (N := 10) ?hd (cs := #[.int .i64 W, .int .i64 H, .slice At C.length ct]) (t := 35) ?hr ?_; (case hd => rfl); (case hg => rfl); (case hr => first | (go_simp; done) | (go_simp; rfl)); intro gp hg w1 hbox hb; have HP1 := Aside0.mk hbox; have HB1 := Aside0.mk hb; clear hbox hb hg)
    | ((with_reducible refine gate_dst (N := 12) rfl ?_); refine box_event ?hg (N := 12) ?hd (cs := #[.slice none 0 0, .slice none 0 0]) (t := 60) ?hr ?_; (case hd => rfl); (case hg => rfl); (case hr => first | (go_simp; done) | (go_simp; rfl)); intro gr hg w2 hbox hb; have HX2 := Aside0.mk hbox; have HB2 := Aside0.mk hb; have HG2 : Aside0 (w1.heap.size ≤ gr) := ⟨by rw [hg]; exact Nat.le_refl _⟩; clear hbox hb hg))
  have hB := below_step HB1.out HB2.out
  have hp2 := (HB2.out.block gp (blk_lt HP1.out)).trans HP1.out
  have HB := Aside0.mk hB
  have HP2 := Aside0.mk hp2
  have HA2 := Aside0.mk (HA.out.chg (Chg.of_below hB own))
  have t0 := cell_blk (j := 0) (u := .int .i64 W) hp2 rfl
  have t1 := cell_blk (j := 1) (u := .int .i64 H) hp2 rfl
  have t2 := cell_blk (j := 2) (u := .slice At C.length ct) hp2 rfl
  clear hB hp2
  go_upto_region 3 with (go_at_call 40; refine (herdsmanref7_MaySeeds.calls 5000 W H At ct C As cs s true _ HA2.out.tile HA2.out.tcap HA2.out.seeds HA2.out.scap HMAY.out).mono ?_; rintro e w3 ⟨rfl, hb⟩; have HB3 := Aside0.mk hb; have t0 := pw_cell_below hb t0; have t1 := pw_cell_below hb t1; have t2 := pw_cell_below hb t2; clear hb)
  have HB03 := Aside0.mk (below_step HB.out HB3.out)
  have HA3 := Aside0.mk (HA2.out.chg (Chg.of_below HB3.out own))
  have HM3 := Aside0.mk (HM.out.below HB03.out)
  have HX3 := Aside0.mk (blk_step HX2.out HB3.out)
  have HZ3 : Aside0 (w.heap.size ≤ w3.heap.size ∧ w.heap.size ≤ gr ∧ rb < w.heap.size ∧ gr < w3.heap.size) := ⟨HB03.out.size, Nat.le_trans HB1.out.size HG2.out, HOWN.out _ HM.out.ownB, blk_lt (blk_step HX2.out HB3.out)⟩
  clear HX2 HB2 HB1 HG2 HB HP1 HP2 HA2 HB3
  go_upto_region 4 with (first
    | (go_at_call 60; refine (herdsmanref7_Field.calls n W H At ct C As cs s D E _ HA3.out.tile HA3.out.tcap HA3.out.seeds HA3.out.scap HRF.out).mono ?_; rintro e w4 ⟨v0, v1, rfl, ho0, ho1, hb⟩; obtain ⟨Ad, cd, rfl⟩ := Kd.R_slice ho0; obtain ⟨Ae, ce, rfl⟩ := Kd.R_slice ho1; have HB4 := Aside0.mk hb; have HD4 := Aside0.mk ho0; have HE4 := Aside0.mk ho1; clear ho0 ho1 hb t0 t1 t2)
    | (go_at_call 102; refine (ask_calls (F := fun k => w3.heap.size ≤ k ∧ k < w4.heap.size) (HM3.out.below HB4.out) (fun b hb => by have h1 := HOWN.out b hb; have h2 := HZ3.out; have h3 := HB4.out.size; omega) (Kd.C_below HA3.out.seeds HB4.out) ⟨HA3.out.scap, HA3.out.slen⟩ (d := D) ⟨(R_C HD4.out).1, ⟨(R_C HD4.out).2, HDE.out.1⟩, fun ad e0 _ => R_base HD4.out ad e0⟩ (e := E) ⟨(R_C HE4.out).1, ⟨(R_C HE4.out).2, HDE.out.2⟩, fun ad e0 _ => R_base HE4.out ad e0⟩ (fun k hk => ⟨hk.2, by have h1 := HZ3.out; have h2 : w3.heap.size ≤ k := hk.1; omega⟩) HZ.out HK.out COK.out).mono ?_; rintro e w5 ⟨x0, rfl, v5, hm, hc⟩; have HM5 := Aside0.mk hm; have HC5 := Aside0.mk hc; clear hm hc))
  obtain ⟨st, hst⟩ : ∃ st, st = askF a b ver s (x0, ⟨a, b, ver, s, D, E⟩) Z := ⟨_, rfl⟩
  have hm5 := HM5.out
  rw [← hst] at hm5
  have hrow := hm5.row
  rw [List.map_cons] at hrow
  obtain ⟨A5, cap5, ev⟩ := Kd.R_slice hrow
  subst ev
  obtain ⟨g5, hA5, y4, y5⟩ := rv_head hrow
  subst hA5
  have c1 := cell_blk (j := 1) (u := .slice (some ⟨g5, 0, none⟩) (st.x.1 :: (askR K st).map (·.1)).length cap5) hm5.blk rfl
  have hx4 := blk_step HX3.out HB4.out
  have hgr : ¬ own gr := fun e0 => by have h1 := HOWN.out _ e0; have h2 := HZ3.out; omega
  have hx5 := HC5.out.blk hx4 hgr
  have z0 := cell_blk (j := 0) (u := .slice none 0 0) hx5 rfl
  have z1 := cell_blk (j := 1) (u := .slice none 0 0) hx5 rfl
  have f0 := free_blk hx5 0
  have f1 := free_blk hx5 1
  have HX5 := Aside0.mk hx5
  have HST := Aside0.mk hst
  have HM6 := Aside0.mk hm5
  obtain ⟨nL, hnL⟩ : ∃ nL, nL = (st.x.1 :: (askR K st).map (·.1)).length := ⟨_, rfl⟩
  rw [← hnL] at c1
  have hn0 : (0 : Int) < (nL : Int) := by rw [hnL]; simp only [List.length_cons]; omega
  have hn1 : 0 < nL := by omega
  clear hst hm5 hrow hx4 hgr hx5 HM5 hnL
  go_wp2_with fail
  (try simp only [Exit.inBlock, Exit.then])
  have hx9 := set_blk (set_blk HX5.out 0 (.slice st.x.1.dA st.x.1.dn st.x.1.dc)) 1 (.slice st.x.1.rA st.x.1.rn st.x.1.rc)
  refine bodyPost_ret (results_ct rfl _ _ gr 60 #[.slice st.x.1.dA st.x.1.dn st.x.1.dc, .slice st.x.1.rA st.x.1.rn st.x.1.rc] (0, 0) _ rfl hx9 Try.underlying60 rfl (by kernel_rfl)) rfl ?_
  have hcs : Chg (fun k => k = gr) w5 ((w5.setCell ⟨gr, 0, none⟩ (.slice st.x.1.dA st.x.1.dn st.x.1.dc)).setCell ⟨gr, 1, none⟩ (.slice st.x.1.rA st.x.1.rn st.x.1.rc)) := ((Chg.refl (fun k => k = gr) w5).set_ (p := ⟨gr, 0, none⟩) (.inl rfl) _).set_ (p := ⟨gr, 1, none⟩) (.inl rfl) _
  have hz := HZ3.out
  have hz4 := HB4.out.size
  have hz5 := HC5.out.size
  have hzs := hcs.size
  refine ⟨x0, st, HST.out, rfl, _, _, HM6.out.chg hcs (fun k hk e0 => ?_), fun k hk => ?_, ?_⟩
  · have e1 : k = gr := e0
    rcases hk with hk | hk | hk
    · have := HOWN.out k hk
      omega
    · omega
    · omega
  · rcases hk with hk | hk | hk
    · exact .inl hk
    · exact .inr (by omega)
    · exact .inr (by omega)
  · have h1 : Chg own w w5 := (Chg.of_below (below_step HB03.out HB4.out) own).trans HC5.out
    exact h1.then_ hcs (fun k hk => .inr (by have e1 : k = gr := hk; omega))
set_option maxRecDepth 100000 in
set_option maxHeartbeats 4000000 in
theorem getR_no (rb : Nat) (w : World) (a b ver : Int) {W H : Int} {At : Option Addr} {ct : Nat} {C : List Int} {As : Option Addr} {cs : Nat} {s : List Seed} (hA : Handed3 w own At ct C As cs s) (hok : ¬ SeedsOk W H C s) :
    Calls Try.prog 69 #[.pointer (some ⟨rb, 0, none⟩), .int .i64 a, .int .i64 b, .int .i64 ver, .agg #[.int .i64 W, .int .i64 H, .slice At C.length ct], .slice As s.length cs] w fun e w' => e = .returned (.tuple #[.agg #[.slice none 0 0, .slice none 0 0], .int .i64 1]) ∧ Below w.heap.size w w' := by
  have hmay : herdsmanref7_MaySeeds.f 5000 W H C s = some false := (maySeedsA W H C (by have := hA.tlen; omega) s (by have := hA.slen; omega) 5000 (by have h1 := hA.tlen; have h2 := hA.slen; omega)).trans (by simp [hok])
  have HA := Aside0.mk hA
  have HMAY := Aside0.mk hmay
  clear hA hok hmay
  go_enter Try.func69, Try.ntmps69
  go_wp2_with (first
    | ((with_reducible refine gate_dst (N := 10) rfl ?_); refine box_event ?hg (N := 10) ?hd (cs := #[.int .i64 W, .int .i64 H, .slice At C.length ct]) (t := 35) ?hr ?_; (case hd => rfl); (case hg => rfl); (case hr => first | (go_simp; done) | (go_simp; rfl)); intro gp hg w1 hbox hb; have HP1 := Aside0.mk hbox; have HB1 := Aside0.mk hb; clear hbox hb hg)
    | ((with_reducible refine gate_dst (N := 12) rfl ?_); refine box_event ?hg (N := 12) ?hd (cs := #[.slice none 0 0, .slice none 0 0]) (t := 60) ?hr ?_; (case hd => rfl); (case hg => rfl); (case hr => first | (go_simp; done) | (go_simp; rfl)); intro gr hg w2 hbox hb; have HX2 := Aside0.mk hbox; have HB2 := Aside0.mk hb; have HG2 : Aside0 (w1.heap.size ≤ gr) := ⟨by rw [hg]; exact Nat.le_refl _⟩; have hp2 := (hb.block gp (blk_lt HP1.out)).trans HP1.out; have t0 := cell_blk (j := 0) (u := .int .i64 W) hp2 rfl; have t1 := cell_blk (j := 1) (u := .int .i64 H) hp2 rfl; have t2 := cell_blk (j := 2) (u := .slice At C.length ct) hp2 rfl; have HB := Aside0.mk (below_step HB1.out hb); clear hbox hb hg hp2)
    | (go_at_call 40; refine (herdsmanref7_MaySeeds.calls 5000 W H At ct C As cs s false _ (Kd.C_below HA.out.tile HB.out) HA.out.tcap (Kd.C_below HA.out.seeds HB.out) HA.out.scap HMAY.out).mono ?_; rintro e w3 ⟨rfl, hb⟩; have HB3 := Aside0.mk hb; have hx3 := (hb.block gr (blk_lt HX2.out)).trans HX2.out; have HX3 := Aside0.mk hx3; have z0 := cell_blk (j := 0) (u := .slice none 0 0) hx3 rfl; have z1 := cell_blk (j := 1) (u := .slice none 0 0) hx3 rfl; have f0 := free_blk hx3 0; have f1 := free_blk hx3 1; clear hb hx3))
  (try simp only [Exit.inBlock, Exit.then])
  have hx9 := set_blk (set_blk HX3.out 0 (.slice none 0 0)) 1 (.slice none 0 0)
  refine bodyPost_ret (results_ct rfl _ _ gr 60 #[.slice none 0 0, .slice none 0 0] (0, 0) _ rfl hx9 Try.underlying60 rfl (by kernel_rfl)) rfl ?_
  have hg : w.heap.size ≤ gr := by have := HG2.out; have := HB1.out.size; omega
  exact ⟨rfl, (((Chg.of_below (below_step HB.out HB3.out) (fun b => w.heap.size ≤ b)).set_ (p := ⟨gr, 0, none⟩) (.inl hg) _).set_ (p := ⟨gr, 1, none⟩) (.inl hg) _).below (fun k hk => hk) (Nat.le_refl _)⟩
end Go.Proofs.Ytgcfcemgeppkmaa.P
