/-
  lru.Use: the seat that was used least is taken.
-/
import Derived.Test.YtgcfcemgeppkmaaXLruUse
namespace Go.Proofs.Ytgcfcemgeppkmaa.P
open Go.RowKit Go.Proofs.YtgcfcemgeppkmaaW.PrintWords Go.Proofs.YtgcfcemgeppkmaaW.PrintLast Go.Proofs.YtgcfcemgeppkmaaW.PrintMore
open Go.Proofs.Ytgcfcemgeppkmaa.Ord
set_option linter.unusedVariables false
set_option linter.unusedSimpArgs false
variable {w w' : World} {lb base : Nat} {k : Int} {sv : Value} {mb : Nat} {seats : List Seat} {newest oldest : Int} {D : DataW Unit} {ord : List Nat}
theorem set_key {l : List Seat} {i : Nat} (h : i < l.length) (a b : Int) : ∃ t, t = (l.set i { l[i] with ka := a }).set i { (l.set i { l[i] with ka := a })[i]'(by simpa using h) with kb := b } ∧ t.length = l.length ∧ nwF t = nwF l ∧ odF t = odF l ∧ ∀ j, keyF t j = if j = i then (a, b) else keyF l j := by
  refine ⟨_, rfl, by simp, funext fun x => ?_, funext fun x => ?_, fun j => ?_⟩
  · simp only [nwF, List.getD_eq_getElem?_getD, List.getElem?_set, List.length_set]
    by_cases e : i = x
    · subst e; simp [h]
    · rw [if_neg e, if_neg e]
  · simp only [odF, List.getD_eq_getElem?_getD, List.getElem?_set, List.length_set]
    by_cases e : i = x
    · subst e; simp [h]
    · rw [if_neg e, if_neg e]
  · simp only [keyF, List.getD_eq_getElem?_getD, List.getElem?_set, List.length_set]
    by_cases e : i = j
    · subst e; simp [h]
    · rw [if_neg e, if_neg e, if_neg (fun h => e h.symm)]
set_option maxRecDepth 100000 in
set_option maxHeartbeats 4000000 in
theorem use_evict (h : LruOk w lb base k sv mb seats newest oldest D ord) {a b : Int} (ha : W64 a) (hb : W64 b) (hn : ∀ i, i < seats.length → keyF seats i ≠ (a, b)) (hk : ¬ (seats.length : Int) < k) (hsm : seats.length ≤ 1000000) :
    Calls Try.prog 98 #[.pointer (some ⟨lb, 0, none⟩), .int .i64 a, .int .i64 b] w fun e w' => ∃ slot : Nat, (slot : Int) = lastI ord ∧ slot < seats.length ∧ e = .returned (.tuple #[.int .i64 slot, .bool false, .bool true]) ∧ ∃ seats' nw' od' D', LruOk w' lb base k sv mb seats' nw' od' D' (slot :: ord.erase slot) ∧ seats'.length = seats.length ∧ (∀ j, keyF seats' j = if j = slot then (a, b) else keyF seats j) ∧ Chg (LruS lb mb sv) w w' := by
  obtain ⟨c0, c1, c2, c3, c4⟩ := h.m.cells
  obtain ⟨slot, hso, hsl⟩ : ∃ slot : Nat, oldest = (slot : Int) ∧ slot ∈ ord := by
    rcases lastI_cases ord with ⟨_, e⟩ | ⟨x, hx, e⟩
    · have h0 : 0 ∈ ord := (h.all 0).2 (by have := h.k1; omega)
      rw [e] at h0
      simp at h0
    · exact ⟨x, h.link.last.trans e, hx⟩
  have hlast : (slot : Int) = lastI ord := hso.symm.trans h.link.last
  have hsl2 : slot < seats.length := (h.all slot).1 hsl
  subst hso
  have HM := Aside0.mk h
  have HSM := Aside0.mk hsm
  have HWF := Aside0.mk (And.intro ha hb)
  have HNO := Aside0.mk (h.keys.none ha hb hn)
  have dk : decide ((seats.length : Int) < k) = false := decide_eq_false hk
  have HK := Aside0.mk hk
  have HLA := Aside0.mk hlast
  have HSL := Aside0.mk hsl
  clear h ha hb hn hsm hlast hsl hk
  go_enter Try.func98, Try.ntmps98
  go_upto_region 4 with (fail)
  obtain ⟨gk, hgk⟩ : ∃ gk, gk = w.heap.size := ⟨_, rfl⟩
  obtain ⟨w1, hw1⟩ : ∃ w1, w1 = w.alloc (.cells #[.int .i64 a, .int .i64 b] keyT) := ⟨_, rfl⟩
  rw [← hw1, ← hgk]
  have hK1 : w1.heap[gk]? = some (.cells #[.int .i64 a, .int .i64 b] keyT (0, 0)) := by rw [hw1, hgk]; exact heap_alloc_new _ _
  have HM1 : Aside0 (LruM w1 lb base k sv mb seats newest slot D) := ⟨by rw [hw1]; exact HM.out.m.alloc _⟩
  have HC1 : Aside0 (Chg (LruS lb mb sv) w w1) := ⟨by rw [hw1]; exact (Chg.refl _ _).alloc _⟩
  have HGK : Aside0 (¬ LruS lb mb sv gk) := ⟨by
    rw [hgk]
    rintro (e | e | e)
    · have := blk_lt HM.out.m.blk; omega
    · have := HM.out.m.map.lt; omega
    · have := (HM.out.m.seats.lt e).2.1; omega⟩
  have hlook := HM1.out.map.look_miss HWF.out.1 HWF.out.2 HNO.out
  have HK1 := Aside0.mk hK1
  have k0 := cell_blk (j := 0) (u := .int .i64 a) hK1 rfl
  have k1 := cell_blk (j := 1) (u := .int .i64 b) hK1 rfl
  clear hw1 hgk hK1 c0 c1 c2 c3 c4
  obtain ⟨c0, c1, c2, c3, c4⟩ := HM1.out.cells
  obtain ⟨Asv, csv, hsv⟩ := HM1.out.seats.slice
  have HSV := Aside0.mk hsv
  rw [hsv] at c1
  clear hsv
  go_quiet (fail)
  clear hlook
  have HM2 := Aside0.mk (HM1.out.drewN nq)
  have HC2 : Aside0 (Chg (LruS lb mb sv) w (w1.drewN nq)) := ⟨HC1.out.trans (Chg.of_below (pw_below_drewN (Below.refl _ _) nq) _)⟩
  have HK2 : Aside0 ((w1.drewN nq).heap[gk]? = some (.cells #[.int .i64 a, .int .i64 b] keyT (0, 0))) := ⟨by rw [drewN_heap']; exact HK1.out⟩
  generalize w1.drewN nq = w2 at *
  clear c0 c1 c2 c3 c4 k0 k1 HM1 HC1 HK1
  obtain ⟨c0, c1, c2, c3, c4⟩ := HM2.out.cells
  rw [HSV.out] at c1
  go_upto_region 11 with (fail)
  go_quiet (fail)
  have HM3 := Aside0.mk (HM2.out.drewN nq)
  have HC3 : Aside0 (Chg (LruS lb mb sv) w (w2.drewN nq)) := ⟨HC2.out.trans (Chg.of_below (pw_below_drewN (Below.refl _ _) nq) _)⟩
  have HK3 : Aside0 ((w2.drewN nq).heap[gk]? = some (.cells #[.int .i64 a, .int .i64 b] keyT (0, 0))) := ⟨by rw [drewN_heap']; exact HK2.out⟩
  generalize w2.drewN nq = w3 at *
  clear c0 c1 c2 c3 c4 HM2 HC2 HK2
  obtain ⟨c0, c1, c2, c3, c4⟩ := HM3.out.cells
  rw [HSV.out] at c1
  go_upto_region 7 with (go_at_call 119; refine (unlink_calls HM3.out slot hsl2 (HM.out.prev hsl2) (HM.out.next hsl2)).mono ?_; rintro e w4 ⟨rfl, s4, nw4, od4, hm4, hu4, hc4⟩; have HM4 := Aside0.mk hm4; have HU4 := Aside0.mk hu4; have HC4 := Aside0.mk (HC3.out.trans hc4); have HK4 := Aside0.mk (hc4.blk HK3.out HGK.out); clear hm4 hu4 hc4 c0 c1 c2 c3 c4)
  have hl4 : slot < s4.length := by rw [HU4.out.len]; exact hsl2
  obtain ⟨g, cap, e4, hrow, p0, p1, p2, p3, pf⟩ := HM4.out.seats.cells hl4
  have hk4 : (s4[slot].ka, s4[slot].kb) = keyF seats slot := by rw [← keyF_at hl4, HU4.out.key]
  obtain ⟨a0, ha0⟩ : ∃ a0, a0 = s4[slot].ka := ⟨_, rfl⟩
  obtain ⟨b0, hb0⟩ : ∃ b0, b0 = s4[slot].kb := ⟨_, rfl⟩
  rw [← ha0, ← hb0] at hk4
  rw [← ha0] at p0
  rw [← hb0] at p1
  have hwf := HM.out.keys.wf slot hsl2
  have hhas := (HM.out.keys.has slot hsl2).1
  rw [← hk4] at hwf hhas
  obtain ⟨c0, c1, c2, c3, c4⟩ := HM4.out.cells
  rw [e4] at c1
  have HE4 := Aside0.mk e4
  have HK04 := Aside0.mk hk4
  have HH0 := Aside0.mk hhas
  have HWF0 := Aside0.mk hwf
  have hsi : (slot : Int) < (s4.length : Int) := by omega
  dsimp only at hwf hhas
  have HA0 := Aside0.mk (And.intro ha0 hb0)
  clear ha0 hb0
  obtain ⟨w5, hdel, hmo, hgr⟩ := MapO.drop (w := w4.drew) HM4.out.drew.map hwf.1 hwf.2 0
  have HM5 := Aside0.mk (HM4.out.drew.mapTurn hgr hmo)
  have HG5 := Aside0.mk hgr
  have HK5 : Aside0 (w5.heap[gk]? = some (.cells #[.int .i64 a, .int .i64 b] keyT (0, 0))) := ⟨(hgr.block gk (blk_lt HK4.out) (fun e => HGK.out (.inr (.inl (by injection e))))).trans HK4.out⟩
  have HMB : mb ≠ g := fun e => HM4.out.mbl.2.1 (by rw [HE4.out, e]; rfl)
  have hg5 : w5.heap[g]? = w4.heap[g]? := hgr.block g ((HM4.out.seats.lt (b := g) (by rw [HE4.out]; rfl)).2.1) (fun e => HMB (by injection e with e; exact e.symm))
  have HG5B := Aside0.mk hg5
  have hc5 : ∀ o, w5.cell? ⟨g, o, none⟩ = w4.cell? ⟨g, o, none⟩ := fun o => by unfold World.cell?; rw [hg5]
  have q0 := (hc5 _).trans p0
  have q1 := (hc5 _).trans p1
  obtain ⟨_, d1, d2, _, _⟩ := HM5.out.cells
  rw [HE4.out] at d1
  clear hmo hgr hc5 hg5 HMB hrow p2 p3 hk4 e4 hwf hhas
  go_region_held3 (fun w' => w'.cell? ⟨lb, 1, none⟩ = some (.slice (some ⟨g, 0, none⟩) s4.length cap) ∧ w'.cell? ⟨lb, 2, none⟩ = some (.map (some mb)) ∧ w'.cell? ⟨g, slot * 4, none⟩ = some (.int .i64 a0) ∧ w'.cell? ⟨g, slot * 4 + 1, none⟩ = some (.int .i64 b0)) (first | exact ⟨c1, c2, p0, p1⟩ | exact ⟨d1, d2, q0, q1⟩ | go_keep) (fail)
  clear hdel
  clear c0 c1 c2 c3 c4 d1 d2 p0 p1
  have HNG : Aside0 (lb ≠ g ∧ gk ≠ g) := ⟨⟨fun e => HM4.out.mbl.2.2 (by rw [HE4.out, e]; rfl), fun e => HGK.out (by rw [e]; have := HU4.out; exact .inr (.inr (by rw [HE4.out]; rfl)))⟩⟩
  obtain ⟨c0, c1, c2, c3, c4⟩ := HM5.out.cells
  rw [HE4.out] at c1
  have k0 := cell_blk (j := 0) (u := .int .i64 a) HK5.out rfl
  have k1 := cell_blk (j := 1) (u := .int .i64 b) HK5.out rfl
  have pf5 : ∀ o, w5.frozen? ⟨g, o, none⟩ = false := fun o => by have := pf o; unfold World.frozen? at this ⊢; rw [HG5B.out]; exact this
  have pf50 := pf5 (slot * 4)
  have pf51 := pf5 (slot * 4 + 1)
  clear pf pf5
  go_upto_region 8 with (fail)
  go_region_held3 (fun w' => w'.cell? ⟨lb, 1, none⟩ = some (.slice (some ⟨g, 0, none⟩) s4.length cap) ∧ w'.cell? ⟨gk, 0, none⟩ = some (.int .i64 a) ∧ w'.cell? ⟨gk, 1, none⟩ = some (.int .i64 b)) (first | exact ⟨c1, k0, k1⟩ | exact ⟨(cfar HNG.out.1 _).trans ((cfar (w := w5) HNG.out.1 _).trans c1), (cfar HNG.out.2 _).trans ((cfar (w := w5) HNG.out.2 _).trans k0), (cfar HNG.out.2 _).trans ((cfar (w := w5) HNG.out.2 _).trans k1)⟩ | go_keep) (fail)
  go_upto_region 14 with (fail)
  obtain ⟨w6, hw6⟩ : ∃ w6, w6 = ((w5.setCell ⟨g, slot * 4, none⟩ (.int .i64 a)).setCell ⟨g, slot * 4 + 1, none⟩ (.int .i64 b)).drew := ⟨_, rfl⟩
  rw [← hw6]
  obtain ⟨t6, ht6, hl6, hn6, ho6, hk6⟩ := set_key hl4 a b
  obtain ⟨D5, hD5⟩ : ∃ D5, D5 = D.del (kl a0 b0) := ⟨_, rfl⟩
  have hM5 := HM5.out
  rw [← hD5] at hM5
  have hM6a : LruM (w5.setCell ⟨g, slot * 4, none⟩ (.int .i64 a)) lb base k sv mb (s4.set slot { s4[slot] with ka := a }) nw4 od4 D5 := hM5.setSeat (c := 0) HE4.out hl4 (by omega) _ _ rfl
  have hM6 : LruM w6 lb base k sv mb t6 nw4 od4 D5 := by
    rw [hw6, ht6]
    exact (hM6a.setSeat (cap := cap) (by rw [List.length_set]; exact HE4.out) (by simpa using hl4) (c := 1) (by omega) (.int .i64 b) { (s4.set slot { s4[slot] with ka := a })[slot]'(by simpa using hl4) with kb := b } rfl).drew
  have hC6 : Chg (LruS lb mb sv) w w6 := by
    rw [hw6]
    exact (((HC4.out.drew.then_ (Chg.of_grown HG5.out (S := LruS lb mb sv) (fun k hk => .inr (.inl (by injection hk with hk; exact hk.symm)))) (fun _ h => .inl h)).set_ (.inl (.inr (.inr (by rw [HE4.out]; rfl)))) _).set_ (.inl (.inr (.inr (by rw [HE4.out]; rfl)))) _).drew
  have hK6 : w6.heap[gk]? = some (.cells #[.int .i64 a, .int .i64 b] keyT (0, 0)) := by
    rw [hw6]
    exact (Below.heap_setCell _ _ _ _ HNG.out.2).trans ((Below.heap_setCell _ _ _ _ HNG.out.2).trans HK5.out)
  have hlen6 : t6.length = seats.length := hl6.trans HU4.out.len
  have hsz5 : Maps.size D5 + 1 = seats.length := by
    have := Maps.size_del (k := kl a0 b0) (HM.out.m.map.tidy lruLaw)
    rw [HH0.out, if_pos rfl, HM.out.keys.size] at this
    rw [hD5]; exact this
  have hka : ∀ j, keyF t6 j = if j = slot then (a, b) else keyF seats j := fun j => by rw [hk6, HU4.out.key]
  have hkeys : KeysOk t6 (D5.put (kl a b) (.lit (.int .i64 (slot : Int)))) := by
    rw [hD5]
    have hne : ∀ j, j < seats.length → j ≠ slot → kl (keyF seats j).1 (keyF seats j).2 ≠ kl a0 b0 := fun j hj hji e => by
      have hw1 := HM.out.keys.wf j hj
      obtain ⟨e1, e2⟩ := kl_inj hw1.1 hw1.2 HWF0.out.1 HWF0.out.2 e
      exact hji (HM.out.keys.inj j slot hj hsl2 (by rw [← HK04.out]; exact Prod.ext e1 e2))
    refine KeysOk.put_new (ks := keyF seats) (n := seats.length) ((HM.out.m.map.tidy lruLaw).del _) HWF.out.1 HWF.out.2 (by omega) (fun j hj hji => HM.out.keys.wf j (by omega)) (fun j hj hji => ?_) (fun a' b' ha hb hh => ?_) (fun x y hx hy hxi hyi hxy => HM.out.keys.inj x y (by omega) (by omega) hxy) ?_ (by rw [← hD5, hsz5, hlen6]) hka
    · have := hne j (by omega) hji
      rw [Maps.has_del_other this, Maps.atKey_del_other this]
      exact HM.out.keys.has j (by omega)
    · have hne2 : kl a' b' ≠ kl a0 b0 := by
        intro e
        rw [e, Maps.has_del_same] at hh
        exact absurd hh (by simp)
      rw [Maps.has_del_other hne2] at hh
      obtain ⟨j, hj, he⟩ := HM.out.keys.only a' b' ha hb hh
      refine ⟨j, by omega, ?_, he⟩
      rintro rfl
      rw [← HK04.out] at he
      injection he with e1 e2
      exact hne2 (by rw [e1, e2])
    · by_cases e : kl a b = kl a0 b0
      · rw [e]; exact Maps.has_del_same
      · rw [Maps.has_del_other e]; exact HNO.out
  have HM6 := Aside0.mk hM6
  have HC6 := Aside0.mk hC6
  have HK6 := Aside0.mk hK6
  have HL6 := Aside0.mk hlen6
  have HSZ := Aside0.mk hsz5
  have HKA := Aside0.mk hka
  have HKY := Aside0.mk hkeys
  have HN6 := Aside0.mk (And.intro hn6 ho6)
  clear hw6 ht6 hl6 hn6 ho6 hk6 hD5 hM5 hM6a hM6 hC6 hK6 hlen6 hsz5 hka hkeys c0 c1 c2 c3 c4 k0 k1 pf50 pf51 q0 q1
  obtain ⟨c0, c1, c2, c3, c4⟩ := HM6.out.cells
  have k0 := cell_blk (j := 0) (u := .int .i64 a) HK6.out rfl
  have k1 := cell_blk (j := 1) (u := .int .i64 b) HK6.out rfl
  obtain ⟨w7, hst, hmo, hgr⟩ := MapO.store (w := w6.drew) HM6.out.drew.map (by have := HSZ.out; have := HSM.out; unfold maxLen; omega) HWF.out.1 HWF.out.2 (slot : Int) ⟨by omega, by have := HSM.out; omega⟩
  have HM7 := Aside0.mk (HM6.out.drew.mapTurn hgr hmo)
  have HG7 := Aside0.mk hgr
  have HK7 : Aside0 (w7.heap[gk]? = some (.cells #[.int .i64 a, .int .i64 b] keyT (0, 0))) := ⟨(hgr.block gk (blk_lt HK6.out) (fun e => HGK.out (.inr (.inl (by injection e))))).trans HK6.out⟩
  clear hmo hgr
  have q2 := HM7.out.cells.2.2.1
  have q0 := cell_blk (j := 0) (u := .int .i64 a) HK7.out rfl
  have q1 := cell_blk (j := 1) (u := .int .i64 b) HK7.out rfl
  go_region_held3 (fun w' => w'.cell? ⟨lb, 2, none⟩ = some (.map (some mb)) ∧ w'.cell? ⟨gk, 0, none⟩ = some (.int .i64 a) ∧ w'.cell? ⟨gk, 1, none⟩ = some (.int .i64 b)) (first | exact ⟨c2, k0, k1⟩ | exact ⟨q2, q0, q1⟩ | go_keep) (fail)
  clear hst c0 c1 c2 c3 c4 k0 k1 q0 q1 q2
  have hL6 : Linked (nwF t6) (odF t6) nw4 od4 (ord.erase slot) := by
    rw [HN6.out.1, HN6.out.2]
    exact HU4.out.linked HM.out.link HSL.out
  have HLK := Aside0.mk hL6
  have hni := not_mem_erase HM.out.link.nodup slot
  have hr6 := head_room hL6.head hni (n := t6.length) (fun x hx => by rw [HL6.out]; exact (HM.out.all x).1 (mem_erase' HM.out.link.nodup hx).2)
  have HR6 := Aside0.mk hr6
  have HNI := Aside0.mk hni
  clear hL6 hni hr6
  go_wp2_with (go_at_call 120; refine (link_calls HM7.out slot (by rw [HL6.out]; exact hsl2) HR6.out).mono ?_; rintro e w8 ⟨rfl, s8, nw8, od8, hm8, hu8, hc8⟩; have HM8 := Aside0.mk hm8; have HU8 := Aside0.mk hu8; have HC8 := Aside0.mk hc8; clear hm8 hu8 hc8)
  go_ret3
  have hlen8 : s8.length = seats.length := HU8.out.len.trans HL6.out
  refine ⟨slot, HLA.out, hsl2, rfl, s8, nw8, od8, _, ⟨HM8.out, HU8.out.linked HLK.out HNI.out, fun x => ?_, ?_, HM.out.k1, by rw [hlen8]; exact HM.out.room⟩, hlen8, fun j => by rw [HU8.out.key]; exact HKA.out j, ?_⟩
  · rw [hlen8, ← HM.out.all x, List.mem_cons, List.Nodup.mem_erase_iff HM.out.link.nodup]
    constructor
    · rintro (rfl | h)
      · exact HSL.out
      · exact h.2
    · intro h
      by_cases e : x = slot
      · exact .inl e
      · exact .inr ⟨e, h⟩
  · obtain ⟨h1, h2, h3, h4, h5⟩ := HKY.out
    refine ⟨fun i hi => ?_, fun i hi => ?_, fun a' b' ha hb hh => ?_, fun x y hx hy hxy => ?_, ?_⟩
    · rw [HU8.out.key]; exact h1 i (by rw [← HU8.out.len]; exact hi)
    · rw [HU8.out.key]; exact h2 i (by rw [← HU8.out.len]; exact hi)
    · rw [HU8.out.key, HU8.out.len]; exact h3 a' b' ha hb hh
    · rw [HU8.out.key] at hxy; exact h4 x y (by rw [← HU8.out.len]; exact hx) (by rw [← HU8.out.len]; exact hy) hxy
    · rw [HU8.out.len]; exact h5
  · exact (HC6.out.drew.then_ (Chg.of_grown HG7.out (S := LruS lb mb sv) (fun k hk => .inr (.inl (by injection hk with hk; exact hk.symm)))) (fun _ h => .inl h)).trans HC8.out
end Go.Proofs.Ytgcfcemgeppkmaa.P
