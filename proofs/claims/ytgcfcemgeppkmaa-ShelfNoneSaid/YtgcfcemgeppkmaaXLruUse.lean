/-
  lru.Use, lru.Keys, lru.Clear, lru.New.
-/
import Derived.Test.YtgcfcemgeppkmaaXLru
import Derived.Outline
import Derived.Deep.RegionLaw
namespace Go.Proofs.Ytgcfcemgeppkmaa.P
open Go.RowKit Go.Proofs.YtgcfcemgeppkmaaW.PrintWords Go.Proofs.YtgcfcemgeppkmaaW.PrintLast Go.Proofs.YtgcfcemgeppkmaaW.PrintMore
open Go.Proofs.Ytgcfcemgeppkmaa.Ord
set_option linter.unusedVariables false
set_option linter.unusedSimpArgs false
/-- The keys of an Lru, slot by slot, and its map, agree. -/
structure KeysOk (seats : List Seat) (D : DataW Unit) : Prop where
  wf : ∀ i, i < seats.length → W64 (keyF seats i).1 ∧ W64 (keyF seats i).2
  has : ∀ i, i < seats.length → Maps.has D (kl (keyF seats i).1 (keyF seats i).2) = true ∧ D.atKey (kl (keyF seats i).1 (keyF seats i).2) (.lit (.int .i64 0)) = .lit (.int .i64 (i : Int))
  only : ∀ a b, W64 a → W64 b → Maps.has D (kl a b) = true → ∃ i, i < seats.length ∧ keyF seats i = (a, b)
  inj : ∀ i j, i < seats.length → j < seats.length → keyF seats i = keyF seats j → i = j
  size : Maps.size D = seats.length
structure LruOk (w : World) (lb base : Nat) (k : Int) (sv : Value) (mb : Nat) (seats : List Seat) (newest oldest : Int) (D : DataW Unit) (ord : List Nat) : Prop where
  m : LruM w lb base k sv mb seats newest oldest D
  link : Linked (nwF seats) (odF seats) newest oldest ord
  all : ∀ i, i ∈ ord ↔ i < seats.length
  keys : KeysOk seats D
  k1 : 1 ≤ k
  room : (seats.length : Int) ≤ k
variable {w w' : World} {lb base : Nat} {k : Int} {sv : Value} {mb : Nat} {seats : List Seat} {newest oldest : Int} {D : DataW Unit} {ord : List Nat}
theorem LruOk.prev (h : LruOk w lb base k sv mb seats newest oldest D ord) {i : Nat} (hi : i < seats.length) : nwF seats i = -1 ∨ ∃ p : Nat, nwF seats i = (p : Int) ∧ p < seats.length ∧ p ≠ i := by
  have hm := (h.all i).2 hi
  rw [h.link.newer i hm]
  unfold prevOf
  have hm' : i ∈ ord.reverse := by simpa using hm
  obtain ⟨pre, post, e⟩ := List.append_of_mem hm'
  have hn := nodup_rev h.link.nodup
  rw [e] at hn ⊢
  obtain ⟨n1, n2, n3⟩ := List.nodup_append.1 hn
  rw [nextOf_at _ (fun e => n3 i e i (by simp) rfl)]
  rcases headI_cases post with ⟨e1, _⟩ | ⟨x, hx, e1⟩
  · exact .inl e1
  · refine .inr ⟨x, e1, (h.all x).1 ?_, ?_⟩
    · have : x ∈ ord.reverse := by rw [e]; simp [hx]
      simpa using this
    · rintro rfl
      exact (List.nodup_cons.1 n2).1 hx
theorem LruOk.next (h : LruOk w lb base k sv mb seats newest oldest D ord) {i : Nat} (hi : i < seats.length) : odF seats i = -1 ∨ ∃ p : Nat, odF seats i = (p : Int) ∧ p < seats.length ∧ p ≠ i := by
  have hm := (h.all i).2 hi
  rw [h.link.old i hm]
  obtain ⟨pre, post, e⟩ := List.append_of_mem hm
  have hn := h.link.nodup
  rw [e] at hn ⊢
  obtain ⟨n1, n2, n3⟩ := List.nodup_append.1 hn
  rw [nextOf_at _ (fun e => n3 i e i (by simp) rfl)]
  rcases headI_cases post with ⟨e1, _⟩ | ⟨x, hx, e1⟩
  · exact .inl e1
  · refine .inr ⟨x, e1, (h.all x).1 ?_, ?_⟩
    · rw [e]; simp [hx]
    · rintro rfl
      exact (List.nodup_cons.1 n2).1 hx
theorem zero3 (w : World) : (zeroValue 3).run Try.prog w = .ok (.int .i64 0) w := by kernel_rfl
/-- What is looked up. -/
theorem MapO.look {n : Nat} (h : MapO w mb n D) {a b : Int} (ha : W64 a) (hb : W64 b) : ∃ c : Int, (Instr.lookup mapT (.map (some mb)) (.agg #[.int .i64 a, .int .i64 b]) true).run Try.prog w = .ok (.tuple #[.int .i64 c, .bool (Maps.has D (kl a b))]) w ∧ D.atKey (kl a b) (.lit (.int .i64 0)) = .lit (.int .i64 c) := by
  obtain ⟨v, ps, hr, hv⟩ := h.look_ok lruLaw Try.underlying148 (zero3 w) (plainElem_int Try.underlying3 (by decide)) (key_some ha hb)
  obtain ⟨c, rfl, hc, _⟩ := plainElem_int_inv Try.underlying3 hv
  exact ⟨c, hr, congrArg Prod.fst hc⟩
theorem MapO.look_hit {n : Nat} (h : MapO w mb n D) (hk : KeysOk seats D) {i : Nat} (hi : i < seats.length) {a b : Int} (hab : keyF seats i = (a, b)) : ∀ q, (Instr.lookup mapT (.map (some mb)) (.agg #[.int .i64 a, .int .i64 b]) true).run Try.prog (w.drewN q) = .ok (.tuple #[.int .i64 i, .bool true]) (w.drewN q) := by
  intro q
  have hwf := hk.wf i hi
  obtain ⟨h1, h2⟩ := hk.has i hi
  rw [hab] at hwf h1 h2
  have hm : MapO (w.drewN q) mb n D := h.heap (by rw [drewN_heap'])
  obtain ⟨c, hr, hc⟩ := hm.look hwf.1 hwf.2
  rw [h1] at hr
  rw [hc] at h2
  have : c = (i : Int) := by simpa using h2
  rw [← this]
  exact hr
theorem MapO.look_miss {n : Nat} (h : MapO w mb n D) {a b : Int} (ha : W64 a) (hb : W64 b) (hm : Maps.has D (kl a b) = false) : ∀ q, (Instr.lookup mapT (.map (some mb)) (.agg #[.int .i64 a, .int .i64 b]) true).run Try.prog (w.drewN q) = .ok (.tuple #[.int .i64 0, .bool false]) (w.drewN q) := by
  intro q
  have hm' : MapO (w.drewN q) mb n D := h.heap (by rw [drewN_heap'])
  obtain ⟨c, hr, hc⟩ := hm'.look ha hb
  rw [hm] at hr
  rw [Maps.atKey_of_not_has hm] at hc
  have : c = 0 := by simpa [eq_comm] using hc
  rw [this] at hr
  exact hr
theorem MapO.store (h : MapO w mb (Maps.size D) D) (hn : Maps.size D < maxLen) {a b : Int} (ha : W64 a) (hb : W64 b) (v : Int) (hv : W64 v) : ∃ w', (Instr.mapUpdate mapT (.map (some mb)) (.agg #[.int .i64 a, .int .i64 b]) (.int .i64 v)).run Try.prog w = .ok () w' ∧ MapO w' mb (Maps.size (D.put (kl a b) (.lit (.int .i64 v)))) (D.put (kl a b) (.lit (.int .i64 v))) ∧ w.grownBy w' (some mb) := by
  obtain ⟨w', hr, ho, ht⟩ := World.ownsMap.store h lruLaw Try.underlying148 hn (key_some ha hb) (plainElem_int Try.underlying3 (wf64 hv))
  exact ⟨w', hr, MapO.fit ho, ht.grown⟩
theorem MapO.drop (h : MapO w mb (Maps.size D) D) {a b : Int} (ha : W64 a) (hb : W64 b) (ty : TypeId) : ∃ w', (Builtin.delete_ #[mapT, keyT] ty #[.map (some mb), .agg #[.int .i64 a, .int .i64 b]]).run Try.prog w = .ok (.tuple #[]) w' ∧ MapO w' mb (Maps.size (D.del (kl a b))) (D.del (kl a b)) ∧ w.grownBy w' (some mb) := by
  obtain ⟨w', hr, ho, ht⟩ := World.ownsMap.drop h lruLaw Try.underlying148 (key_some ha hb) ty
  exact ⟨w', hr, MapO.fit ho, ht.grown⟩
theorem LruM.mapTurn {D' : DataW Unit} (h : LruM w lb base k sv mb seats newest oldest D) (hg : w.grownBy w' (some mb)) (hm : MapO w' mb (Maps.size D') D') : LruM w' lb base k sv mb seats newest oldest D' where
  blk := (hg.block lb (blk_lt h.blk) (fun e => h.mbl.1 (by injection e with e; exact e.symm))).trans h.blk
  seats := h.seats.heap (fun b hb => hg.block b (h.seats.lt hb).2.1 (fun e => h.mbl.2.1 (hb.trans e)))
  map := hm
  lbB := h.lbB
  mbB := h.mbB
theorem KeysOk.put_hit {seats s' : List Seat} {D : DataW Unit} (h : KeysOk seats D) (ht : Maps.Tidy D) {i : Nat} (hi : i < seats.length) {a b : Int} (hab : keyF seats i = (a, b)) (hl : s'.length = seats.length) (hk : keyF s' = keyF seats) : KeysOk s' (D.put (kl a b) (.lit (.int .i64 (i : Int)))) where
  wf j hj := by rw [hk]; exact h.wf j (by omega)
  has j hj := by
    have hj' : j < seats.length := by omega
    have hwi := h.wf i hi
    have hwj := h.wf j hj'
    rw [hk]
    by_cases e : j = i
    · subst e
      rw [hab] at hwi ⊢
      exact ⟨Maps.has_put_same ht.isMap (kl_key hwi.1 hwi.2) _, Maps.atKey_put_same ht.isMap (kl_key hwi.1 hwi.2) _ _⟩
    · have hne : kl (keyF seats j).1 (keyF seats j).2 ≠ kl a b := by
        intro e'
        rw [hab] at hwi
        obtain ⟨e1, e2⟩ := kl_inj hwj.1 hwj.2 hwi.1 hwi.2 e'
        exact e (h.inj j i hj' hi (by rw [hab]; exact Prod.ext e1 e2))
      rw [Maps.has_put_other hne, Maps.atKey_put_other hne]
      exact h.has j hj'
  only a' b' ha hb hh := by
    rw [hk, hl]
    by_cases e : kl a' b' = kl a b
    · have hwi := h.wf i hi
      rw [hab] at hwi
      obtain ⟨e1, e2⟩ := kl_inj ha hb hwi.1 hwi.2 e
      exact ⟨i, hi, by rw [hab, e1, e2]⟩
    · rw [Maps.has_put_other e] at hh
      exact h.only a' b' ha hb hh
  inj x y hx hy hxy := by rw [hk] at hxy; exact h.inj x y (by omega) (by omega) hxy
  size := by
    have := h.has i hi
    rw [hab] at this
    rw [Maps.size_put ht, if_pos this.1, hl]
    exact h.size
theorem Unlinked.linked {seats s3 : List Seat} {nw od nw3 od3 : Int} {ord : List Nat} {i : Nat} (h : Unlinked seats nw od i s3 nw3 od3) (hl : Linked (nwF seats) (odF seats) nw od ord) (hi : i ∈ ord) : Linked (nwF s3) (odF s3) nw3 od3 (ord.erase i) := by
  have := hl.unlink hi
  rw [← h.nwE, ← h.odE, ← h.head, ← h.last] at this
  exact this
theorem LinkedBy.linked {seats s3 : List Seat} {nw od nw3 od3 : Int} {ord : List Nat} {i : Nat} (h : LinkedBy seats nw od i s3 nw3 od3) (hl : Linked (nwF seats) (odF seats) nw od ord) (hi : i ∉ ord) : Linked (nwF s3) (odF s3) nw3 od3 (i :: ord) := by
  rw [h.nwE, h.odE, h.head, h.last]
  exact hl.link hi
theorem not_mem_erase {l : List Nat} (h : l.Nodup) (i : Nat) : i ∉ l.erase i := fun hm => (List.Nodup.mem_erase_iff h).1 hm |>.1 rfl
theorem mem_erase' {l : List Nat} (h : l.Nodup) {i x : Nat} (hx : x ∈ l.erase i) : x ≠ i ∧ x ∈ l := (List.Nodup.mem_erase_iff h).1 hx
theorem head_room {nw : Int} {ord : List Nat} {i n : Nat} (hh : nw = headI ord) (hi : i ∉ ord) (hn : ∀ x, x ∈ ord → x < n) : nw = -1 ∨ ∃ p : Nat, nw = (p : Int) ∧ p < n ∧ p ≠ i := by
  rcases headI_cases ord with ⟨e, _⟩ | ⟨x, hx, e⟩
  · exact .inl (hh.trans e)
  · exact .inr ⟨x, hh.trans e, hn x hx, fun e => hi (e ▸ hx)⟩
/-- What Use tells, and what it leaves, by keys and order alone. -/
structure Used (n : Nat) (k : Int) (ks : Nat → Int × Int) (ord : List Nat) (a b : Int) (slot : Nat) (had out : Bool) (n' : Nat) (ks' : Nat → Int × Int) (ord' : List Nat) : Prop where
  hit : had = true → slot < n ∧ ks slot = (a, b) ∧ out = false ∧ n' = n ∧ ks' = ks ∧ ord' = slot :: ord.erase slot
  miss : had = false → (∀ i, i < n → ks i ≠ (a, b)) ∧ (∀ i, ks' i = if i = slot then (a, b) else ks i)
  fresh : had = false → (n : Int) < k → slot = n ∧ out = false ∧ n' = n + 1 ∧ ord' = n :: ord
  evict : had = false → ¬ (n : Int) < k → slot < n ∧ (slot : Int) = lastI ord ∧ out = true ∧ n' = n ∧ ord' = slot :: ord.erase slot
set_option maxRecDepth 100000 in
set_option maxHeartbeats 4000000 in
theorem use_hit (h : LruOk w lb base k sv mb seats newest oldest D ord) {a b : Int} {i : Nat} (hi : i < seats.length) (hab : keyF seats i = (a, b)) (hsm : seats.length ≤ 1000000) :
    Calls Try.prog 98 #[.pointer (some ⟨lb, 0, none⟩), .int .i64 a, .int .i64 b] w fun e w' => e = .returned (.tuple #[.int .i64 i, .bool true, .bool false]) ∧ ∃ seats' nw' od' D', LruOk w' lb base k sv mb seats' nw' od' D' (i :: ord.erase i) ∧ seats'.length = seats.length ∧ keyF seats' = keyF seats ∧ Chg (LruS lb mb sv) w w' := by
  obtain ⟨c0, c1, c2, c3, c4⟩ := h.m.cells
  have HM := Aside0.mk h
  have HAB := Aside0.mk hab
  have HSM := Aside0.mk hsm
  have hwf := h.keys.wf i hi
  rw [hab] at hwf
  have HWF := Aside0.mk hwf
  clear h hab hwf hsm
  go_enter Try.func98, Try.ntmps98
  go_upto_region 4 with (fail)
  obtain ⟨gk, hgk⟩ : ∃ gk, gk = w.heap.size := ⟨_, rfl⟩
  obtain ⟨w1, hw1⟩ : ∃ w1, w1 = w.alloc (.cells #[.int .i64 a, .int .i64 b] keyT) := ⟨_, rfl⟩
  rw [← hw1, ← hgk]
  have hK1 : w1.heap[gk]? = some (.cells #[.int .i64 a, .int .i64 b] keyT (0, 0)) := by rw [hw1, hgk]; exact heap_alloc_new _ _
  have HM1 : Aside0 (LruM w1 lb base k sv mb seats newest oldest D) := ⟨by rw [hw1]; exact HM.out.m.alloc _⟩
  have HC1 : Aside0 (Chg (LruS lb mb sv) w w1) := ⟨by rw [hw1]; exact (Chg.refl _ _).alloc _⟩
  have HGK : Aside0 (¬ LruS lb mb sv gk) := ⟨by
    rw [hgk]
    rintro (e | e | e)
    · have := blk_lt HM.out.m.blk; omega
    · have := HM.out.m.map.lt; omega
    · have := (HM.out.m.seats.lt e).2.1; omega⟩
  have hlook := HM1.out.map.look_hit HM.out.keys hi HAB.out
  have HK1 := Aside0.mk hK1
  have k0 := cell_blk (j := 0) (u := .int .i64 a) hK1 rfl
  have k1 := cell_blk (j := 1) (u := .int .i64 b) hK1 rfl
  clear hw1 hgk hK1 c0 c1 c2 c3 c4
  obtain ⟨c0, c1, c2, c3, c4⟩ := HM1.out.cells
  go_quiet (fail)
  clear hlook
  have HM2 := Aside0.mk (HM1.out.drewN nq)
  have HC2 : Aside0 (Chg (LruS lb mb sv) w (w1.drewN nq)) := ⟨HC1.out.trans (Chg.of_below (pw_below_drewN (Below.refl _ _) nq) _)⟩
  have HK2 : Aside0 ((w1.drewN nq).heap[gk]? = some (.cells #[.int .i64 a, .int .i64 b] keyT (0, 0))) := ⟨by rw [drewN_heap']; exact HK1.out⟩
  generalize w1.drewN nq = w2 at *
  clear c0 c1 c2 c3 c4 k0 k1 HM1 HC1 HK1
  go_upto_region 14 with (go_at_call 119; refine (unlink_calls HM2.out i hi (HM.out.prev hi) (HM.out.next hi)).mono ?_; rintro e w3 ⟨rfl, s3, nw3, od3, hm3, hu3, hc3⟩; have HM3 := Aside0.mk hm3; have HU3 := Aside0.mk hu3; have HC3 := Aside0.mk (HC2.out.trans hc3); have HK3 := Aside0.mk (hc3.blk HK2.out HGK.out); clear hm3 hu3 hc3)
  have hK3 := HK3.out
  obtain ⟨c0, c1, c2, c3, c4⟩ := HM3.out.cells
  have k0 := cell_blk (j := 0) (u := .int .i64 a) HK3.out rfl
  have k1 := cell_blk (j := 1) (u := .int .i64 b) HK3.out rfl
  obtain ⟨w4, hst, hmo, hgr⟩ := MapO.store (w := w3.drew) HM3.out.drew.map (by rw [HM.out.keys.size]; have := HSM.out; unfold maxLen; omega) HWF.out.1 HWF.out.2 (i : Int) ⟨by omega, by have := HSM.out; omega⟩
  have HM4 := Aside0.mk (HM3.out.drew.mapTurn hgr hmo)
  have HG4 := Aside0.mk hgr
  have HK4 : Aside0 (w4.heap[gk]? = some (.cells #[.int .i64 a, .int .i64 b] keyT (0, 0))) := ⟨(hgr.block gk (blk_lt HK3.out) (fun e => HGK.out (.inr (.inl (by injection e))))).trans HK3.out⟩
  clear hK3 hmo hgr
  have q2 := HM4.out.cells.2.2.1
  have q0 := cell_blk (j := 0) (u := .int .i64 a) HK4.out rfl
  have q1 := cell_blk (j := 1) (u := .int .i64 b) HK4.out rfl
  go_region_held3 (fun w' => w'.cell? ⟨lb, 2, none⟩ = some (.map (some mb)) ∧ w'.cell? ⟨gk, 0, none⟩ = some (.int .i64 a) ∧ w'.cell? ⟨gk, 1, none⟩ = some (.int .i64 b)) (first | exact ⟨c2, k0, k1⟩ | exact ⟨q2, q0, q1⟩ | go_keep) (fail)
  clear hst c0 c1 c2 c3 c4 k0 k1 q0 q1 q2
  have hL3 : Linked (nwF s3) (odF s3) nw3 od3 (ord.erase i) := HU3.out.linked HM.out.link ((HM.out.all i).2 hi)
  have HL3 := Aside0.mk hL3
  have hni := not_mem_erase HM.out.link.nodup i
  have hr3 := head_room hL3.head hni (n := s3.length) (fun x hx => by rw [HU3.out.len]; exact (HM.out.all x).1 (mem_erase' HM.out.link.nodup hx).2)
  have HR3 := Aside0.mk hr3
  have HNI := Aside0.mk hni
  clear hL3 hni hr3
  go_wp2_with (go_at_call 120; refine (link_calls HM4.out i (by rw [HU3.out.len]; exact hi) HR3.out).mono ?_; rintro e w5 ⟨rfl, s5, nw5, od5, hm5, hu5, hc5⟩; have HM5 := Aside0.mk hm5; have HU5 := Aside0.mk hu5; have HC5 := Aside0.mk hc5; clear hm5 hu5 hc5)
  go_ret3
  refine ⟨rfl, s5, nw5, od5, _, ⟨HM5.out, HU5.out.linked HL3.out HNI.out, fun x => ?_, HM.out.keys.put_hit (HM.out.m.map.tidy lruLaw) hi HAB.out (HU5.out.len.trans HU3.out.len) (HU5.out.key.trans HU3.out.key), HM.out.k1, by rw [HU5.out.len, HU3.out.len]; exact HM.out.room⟩, HU5.out.len.trans HU3.out.len, HU5.out.key.trans HU3.out.key, ?_⟩
  · rw [HU5.out.len, HU3.out.len, ← HM.out.all x, List.mem_cons, List.Nodup.mem_erase_iff HM.out.link.nodup]
    have := (HM.out.all i).2 hi
    constructor
    · rintro (rfl | h)
      · exact this
      · exact h.2
    · intro h
      by_cases e : x = i
      · exact .inl e
      · exact .inr ⟨e, h⟩
  · exact (HC3.out.drew.then_ (Chg.of_grown HG4.out (S := LruS lb mb sv) (fun k hk => .inr (.inl (by injection hk with hk; exact hk.symm)))) (fun _ h => .inl h)).trans HC5.out
theorem infoSeat : (Try.prog.info? 153).map (fun i => (i.zero, i.size, i.bytes)) = some (some (.agg #[.int .i64 0, .int .i64 0, .int .i64 0, .int .i64 0]), 4, 32) := by kernel_rfl
theorem SeatsM.owns (h : SeatsM w base sv seats) : w.ownsRow base 153 4 sv seats.length (seats.flatMap encE) := by
  rcases h with ⟨rfl, rfl⟩ | ⟨g, cap, rfl, h1, h2, h3⟩
  · exact ⟨by simp, .inl ⟨rfl, rfl⟩⟩
  · exact RowIn_ownsRow encE_len h3 h1 h2
theorem SeatsM.of_owns {l : List Seat} {inner : List Value} (h : w.ownsRow base 153 4 sv l.length inner) (hi : inner = l.flatMap encE) : SeatsM w base sv l := by
  rcases ownsRow_RowIn encE_len h hi with ⟨rfl, rfl⟩ | ⟨B, cap, rfl, h1, h2, h3⟩
  · exact .inl ⟨rfl, rfl⟩
  · exact .inr ⟨B, cap, rfl, h1, h2, h3⟩
theorem snoc_owns {l : List Seat} {x : Seat} {cs : List Value} (h : w.ownsRow base 153 4 sv (l.length + 1) (l.flatMap encE ++ cs)) (hx : encE x = cs) : SeatsM w base sv (l ++ [x]) :=
  SeatsM.of_owns (l := l ++ [x]) (inner := l.flatMap encE ++ cs) (by simpa using h) (by simp [hx])
theorem keyF_snoc (l : List Seat) (x : Seat) (i : Nat) : keyF (l ++ [x]) i = if i = l.length then (x.ka, x.kb) else keyF l i := by
  unfold keyF
  simp only [List.getD_eq_getElem?_getD]
  by_cases e : i = l.length
  · subst e
    rw [if_pos rfl]
    simp
  · rw [if_neg e]
    by_cases h : i < l.length
    · rw [List.getElem?_append_left h]
    · rw [List.getElem?_eq_none (by simp; omega), List.getElem?_eq_none (by omega)]
theorem nwF_snoc (l : List Seat) (x : Seat) {i : Nat} (h : i < l.length) : nwF (l ++ [x]) i = nwF l i ∧ odF (l ++ [x]) i = odF l i := by
  unfold nwF odF
  simp only [List.getD_eq_getElem?_getD]
  rw [List.getElem?_append_left h]
  exact ⟨rfl, rfl⟩
/-- A key that was not there goes to a slot of its own: a new one, or one whose key is gone. -/
theorem KeysOk.put_new {ks : Nat → Int × Int} {n : Nat} {D : DataW Unit} (ht : Maps.Tidy D) {s' : List Seat} {a b : Int} (ha : W64 a) (hb : W64 b) {i : Nat} (hi : i < s'.length)
    (hwf : ∀ j, j < s'.length → j ≠ i → W64 (ks j).1 ∧ W64 (ks j).2)
    (hhas : ∀ j, j < s'.length → j ≠ i → Maps.has D (kl (ks j).1 (ks j).2) = true ∧ D.atKey (kl (ks j).1 (ks j).2) (.lit (.int .i64 0)) = .lit (.int .i64 (j : Int)))
    (honly : ∀ a' b', W64 a' → W64 b' → Maps.has D (kl a' b') = true → ∃ j, j < s'.length ∧ j ≠ i ∧ ks j = (a', b'))
    (hinj : ∀ x y, x < s'.length → y < s'.length → x ≠ i → y ≠ i → ks x = ks y → x = y)
    (hno : Maps.has D (kl a b) = false) (hsz : Maps.size D + 1 = s'.length) (hk : ∀ j, keyF s' j = if j = i then (a, b) else ks j) : KeysOk s' (D.put (kl a b) (.lit (.int .i64 (i : Int)))) where
  wf j hj := by
    rw [hk]
    by_cases e : j = i
    · rw [if_pos e]; exact ⟨ha, hb⟩
    · rw [if_neg e]; exact hwf j hj e
  has j hj := by
    rw [hk]
    by_cases e : j = i
    · subst e
      rw [if_pos rfl]
      exact ⟨Maps.has_put_same ht.isMap (kl_key ha hb) _, Maps.atKey_put_same ht.isMap (kl_key ha hb) _ _⟩
    · rw [if_neg e]
      have h1 := hhas j hj e
      have hne : kl (ks j).1 (ks j).2 ≠ kl a b := by
        intro e'
        rw [e', hno] at h1
        exact absurd h1.1 (by simp)
      rw [Maps.has_put_other hne, Maps.atKey_put_other hne]
      exact h1
  only a' b' ha' hb' hh := by
    by_cases e : kl a' b' = kl a b
    · obtain ⟨e1, e2⟩ := kl_inj ha' hb' ha hb e
      exact ⟨i, hi, by rw [hk, if_pos rfl, e1, e2]⟩
    · rw [Maps.has_put_other e] at hh
      obtain ⟨j, hj, hji, hj2⟩ := honly a' b' ha' hb' hh
      exact ⟨j, hj, by rw [hk, if_neg hji]; exact hj2⟩
  inj x y hx hy hxy := by
    rw [hk, hk] at hxy
    have hni : ∀ z, z < s'.length → z ≠ i → ks z ≠ (a, b) := by
      intro z hz hzi e
      have := (hhas z hz hzi).1
      rw [e, hno] at this
      simp at this
    by_cases ex : x = i
    · by_cases ey : y = i
      · rw [ex, ey]
      · rw [if_pos ex, if_neg ey] at hxy
        exact absurd hxy.symm (hni y hy ey)
    · by_cases ey : y = i
      · rw [if_neg ex, if_pos ey] at hxy
        exact absurd hxy (hni x hx ex)
      · rw [if_neg ex, if_neg ey] at hxy
        exact hinj x y hx hy ex ey hxy
  size := by
    rw [Maps.size_put ht, hno]
    simpa using hsz
theorem KeysOk.none {seats : List Seat} {D : DataW Unit} (h : KeysOk seats D) {a b : Int} (ha : W64 a) (hb : W64 b) (hn : ∀ i, i < seats.length → keyF seats i ≠ (a, b)) : Maps.has D (kl a b) = false := by
  cases e : Maps.has D (kl a b) with
  | false => rfl
  | true =>
    obtain ⟨i, hi, e'⟩ := h.only a b ha hb e
    exact absurd e' (hn i hi)
/-- A row of seats grown by one. -/
theorem LruM.grow {x : Seat} {v1 : Value} (h : LruM w lb base k sv mb seats newest oldest D) (hg : w.grownBy w' sv.ownBlock) (ho : SeatsM w' base v1 (seats ++ [x])) : LruM (w'.setCell ⟨lb, 1, none⟩ v1) lb base k v1 mb (seats ++ [x]) newest oldest D := by
  have hb : w'.heap[lb]? = some (.cells #[.int .i64 k, sv, .map (some mb), .int .i64 newest, .int .i64 oldest] 150 (0, 0)) := (hg.block lb (blk_lt h.blk) (fun e => h.mbl.2.2 e.symm)).trans h.blk
  refine ⟨set_blk hb 1 _, ho.heap (fun b hb' => Below.heap_setCell _ _ _ _ ?_), h.map.heap ((Below.heap_setCell _ _ _ _ h.mbl.1).trans (hg.block mb h.map.lt (fun e => h.mbl.2.1 e.symm))), h.lbB, h.mbB⟩
  rintro rfl
  obtain ⟨_, _, cs, hc⟩ := ho.lt hb'
  rw [hb] at hc
  simp at hc
set_option maxRecDepth 100000 in
set_option maxHeartbeats 4000000 in
theorem use_fresh (h : LruOk w lb base k sv mb seats newest oldest D ord) {a b : Int} (ha : W64 a) (hb : W64 b) (hn : ∀ i, i < seats.length → keyF seats i ≠ (a, b)) (hk : (seats.length : Int) < k) (hsm : seats.length ≤ 1000000) :
    Calls Try.prog 98 #[.pointer (some ⟨lb, 0, none⟩), .int .i64 a, .int .i64 b] w fun e w' => e = .returned (.tuple #[.int .i64 seats.length, .bool false, .bool false]) ∧ ∃ sv' seats' nw' od' D', LruOk w' lb base k sv' mb seats' nw' od' D' (seats.length :: ord) ∧ seats'.length = seats.length + 1 ∧ (∀ j, keyF seats' j = if j = seats.length then (a, b) else keyF seats j) ∧ Chg (LruS lb mb sv) w w' ∧ ∀ c, LruS lb mb sv' c → LruS lb mb sv c ∨ w.heap.size ≤ c := by
  obtain ⟨c0, c1, c2, c3, c4⟩ := h.m.cells
  have HM := Aside0.mk h
  have HSM := Aside0.mk hsm
  have HWF := Aside0.mk (And.intro ha hb)
  have HNO := Aside0.mk (h.keys.none ha hb hn)
  have dk : decide ((seats.length : Int) < k) = true := decide_eq_true hk
  have HK := Aside0.mk hk
  clear h ha hb hn hsm
  go_enter Try.func98, Try.ntmps98
  go_upto_region 4 with (fail)
  obtain ⟨gk, hgk⟩ : ∃ gk, gk = w.heap.size := ⟨_, rfl⟩
  obtain ⟨w1, hw1⟩ : ∃ w1, w1 = w.alloc (.cells #[.int .i64 a, .int .i64 b] keyT) := ⟨_, rfl⟩
  rw [← hw1, ← hgk]
  have hK1 : w1.heap[gk]? = some (.cells #[.int .i64 a, .int .i64 b] keyT (0, 0)) := by rw [hw1, hgk]; exact heap_alloc_new _ _
  have HM1 : Aside0 (LruM w1 lb base k sv mb seats newest oldest D) := ⟨by rw [hw1]; exact HM.out.m.alloc _⟩
  have HC1 : Aside0 (Chg (LruS lb mb sv) w w1) := ⟨by rw [hw1]; exact (Chg.refl _ _).alloc _⟩
  have HGK : Aside0 (¬ LruS lb mb sv gk) := ⟨by
    rw [hgk]
    rintro (e | e | e)
    · have := blk_lt HM.out.m.blk; omega
    · have := HM.out.m.map.lt; omega
    · have := (HM.out.m.seats.lt e).2.1; omega⟩
  have hlook := HM1.out.map.look_miss HWF.out.1 HWF.out.2 HNO.out
  have HK1 := Aside0.mk hK1
  have k0 := cell_blk (j := 0) (u := .int .i64 a) hK1 rfl
  have k1 := cell_blk (j := 1) (u := .int .i64 b) hK1 rfl
  clear hw1 hgk hK1 c0 c1 c2 c3 c4
  obtain ⟨c0, c1, c2, c3, c4⟩ := HM1.out.cells
  obtain ⟨Asv, csv, hsv⟩ := HM1.out.seats.slice
  have HSV := Aside0.mk hsv
  rw [hsv] at c1
  clear hsv
  go_quiet (fail)
  clear hlook
  have HM2 := Aside0.mk (HM1.out.drewN nq)
  have HC2 : Aside0 (Chg (LruS lb mb sv) w (w1.drewN nq)) := ⟨HC1.out.trans (Chg.of_below (pw_below_drewN (Below.refl _ _) nq) _)⟩
  have HK2 : Aside0 ((w1.drewN nq).heap[gk]? = some (.cells #[.int .i64 a, .int .i64 b] keyT (0, 0))) := ⟨by rw [drewN_heap']; exact HK1.out⟩
  generalize w1.drewN nq = w2 at *
  clear c0 c1 c2 c3 c4 k0 k1 HM1 HC1 HK1
  obtain ⟨c0, c1, c2, c3, c4⟩ := HM2.out.cells
  rw [HSV.out] at c1
  go_upto_region 11 with (fail)
  go_quiet (fail)
  have HM3 := Aside0.mk (HM2.out.drewN nq)
  have HC3 : Aside0 (Chg (LruS lb mb sv) w (w2.drewN nq)) := ⟨HC2.out.trans (Chg.of_below (pw_below_drewN (Below.refl _ _) nq) _)⟩
  have HK3 : Aside0 ((w2.drewN nq).heap[gk]? = some (.cells #[.int .i64 a, .int .i64 b] keyT (0, 0))) := ⟨by rw [drewN_heap']; exact HK2.out⟩
  generalize w2.drewN nq = w3 at *
  clear c0 c1 c2 c3 c4 HM2 HC2 HK2
  obtain ⟨c0, c1, c2, c3, c4⟩ := HM3.out.cells
  rw [HSV.out] at c1
  go_upto_region 13 with (fail)
  have k0 := cell_blk (j := 0) (u := .int .i64 a) HK3.out rfl
  have k1 := cell_blk (j := 1) (u := .int .i64 b) HK3.out rfl
  have f1 := free_blk HM3.out.blk 1
  clear c0 c2 c3 c4
  have hn1 : ∀ o_, (w3.alloc o_).cell? ⟨lb, 1, none⟩ = some (.slice Asv seats.length csv) := fun o_ => pw_cell_below (below_alloc (Below.refl _ _) o_) c1
  have hn2 : ∀ o_, (w3.alloc o_).cell? ⟨gk, 0, none⟩ = some (.int .i64 a) := fun o_ => pw_cell_below (below_alloc (Below.refl _ _) o_) k0
  have hn3 : ∀ o_, (w3.alloc o_).cell? ⟨gk, 1, none⟩ = some (.int .i64 b) := fun o_ => pw_cell_below (below_alloc (Below.refl _ _) o_) k1
  go_region_law ((rw [show ∀ o_, (w3.alloc o_).drew = w3.drew.alloc o_ from fun _ => rfl]; refine step_append_cells (w0 := w3) base (by rfl) (.tmp 76) (.tmp 79) 147 153 (.agg #[.int .i64 0, .int .i64 0, .int .i64 0, .int .i64 0]) 4 32 (by rfl) Try.underlying147 infoSeat rfl (by decide) (by decide) sv seats.length (seats.flatMap encE) [.int .i64 a, .int .i64 b, .int .i64 0, .int .i64 0] ?aS ?aX rfl (by simp [Value.oneCell']) ?aO ?aB ?aZ ?aL ?_; (case aS => rw [HSV.out]; rfl); (case aX => rfl); (case aO => exact HM3.out.drew.seats.owns); (case aB => exact below_drew1 (Below.refl _ _)); (case aZ => exact Nat.le_of_lt (Nat.lt_of_le_of_lt HM3.out.lbB (blk_lt HM3.out.blk))); (case aL => have := HSM.out; omega); intro v4 w4 ho hb hg hat; have ho' : SeatsM w4 base v4 (seats ++ [⟨a, b, 0, 0⟩]) := snoc_owns ho rfl; obtain ⟨A4, n4, e4⟩ := ho'.slice; subst e4; have HO4 := Aside0.mk ho'; clear ho'; have HG4 := Aside0.mk hg; have HA4 := Aside0.mk hat; clear ho hb hg hat; have hb4 := (HG4.out.block lb (blk_lt HM3.out.blk) (fun e => HM3.out.mbl.2.2 e.symm)).trans HM3.out.blk; have f4 := free_blk hb4 1; have c14 := cell_blk (j := 1) (u := sv) hb4 rfl; clear hb4))
  all_goals
    obtain ⟨v5, hv5⟩ : ∃ v5, v5 = Value.slice A4 (seats.length + 1) n4 := ⟨_, rfl⟩
    have e5 : Value.slice A4 (seats ++ [(⟨a, b, 0, 0⟩ : Seat)]).length n4 = v5 := by rw [hv5]; simp
    have HA5 : Aside0 (v5.ownBlock = sv.ownBlock ∨ ∃ b, v5.ownBlock = some b ∧ w3.heap.size ≤ b) := ⟨by rw [← e5]; exact HA4.out⟩
    obtain ⟨w5, hw5⟩ : ∃ w5, w5 = w4.setCell ⟨lb, 1, none⟩ (.slice A4 (seats.length + 1) n4) := ⟨_, rfl⟩
    rw [← hw5]
    obtain ⟨s5, hs5⟩ : ∃ s5, s5 = seats ++ [(⟨a, b, 0, 0⟩ : Seat)] := ⟨_, rfl⟩
    have hM5 : LruM w5 lb base k v5 mb s5 newest oldest D := by
      have h_ := HM3.out.drew.grow HG4.out HO4.out
      rw [e5] at h_
      rw [hw5, hs5, ← hv5]
      exact h_
    have hl5 : s5.length = seats.length + 1 := by rw [hs5]; simp
    have hk5 : ∀ j, keyF s5 j = if j = seats.length then (a, b) else keyF seats j := fun j => by rw [hs5]; exact keyF_snoc _ _ _
    have hn5 : ∀ j, j < seats.length → nwF s5 j = nwF seats j ∧ odF s5 j = odF seats j := fun j hj => by rw [hs5]; exact nwF_snoc _ _ hj
    have hC5 : Chg (LruS lb mb sv) w w5 := by
      rw [hw5]
      exact (HC3.out.drew.then_ (Chg.of_grown HG4.out (S := LruS lb mb sv) (fun k hk => .inr (.inr hk))) (fun _ h => .inl h)).set_ (.inl (.inl rfl)) _
    have hO5 : ∀ c, LruS lb mb v5 c → LruS lb mb sv c ∨ w.heap.size ≤ c := by
      rintro c (e | e | e)
      · exact .inl (.inl e)
      · exact .inl (.inr (.inl e))
      · rcases HA5.out with h | ⟨b', h, hle⟩
        · refine .inl (.inr (.inr ?_))
          rw [← h, ← e]
        · right
          have e2 : some b' = some c := by rw [← h, ← e]
          injection e2 with e2
          have := HC3.out.size
          have hle' : w3.heap.size ≤ b' := hle
          omega
    have hK5 : w5.heap[gk]? = some (.cells #[.int .i64 a, .int .i64 b] keyT (0, 0)) := by
      rw [hw5]
      refine (Below.heap_setCell _ _ _ _ (fun e => HGK.out (.inl e))).trans ((HG4.out.block gk (blk_lt HK3.out) (fun e => HGK.out (.inr (.inr e.symm)))).trans HK3.out)
    have HM5 := Aside0.mk hM5
    have HL5 := Aside0.mk hl5
    have HK5 := Aside0.mk hk5
    have HN5 := Aside0.mk hn5
    have HC5 := Aside0.mk hC5
    have HO5 := Aside0.mk hO5
    have HKB := Aside0.mk hK5
    clear e5 hv5 hw5 hs5 hM5 hl5 hk5 hn5 hC5 hO5 hK5 hn1 hn2 hn3 c1 k0 k1 f1 c14 f4 HO4 HG4 HA4 HM3 HC3 HK3
    go_upto_region 14 with (fail)
    obtain ⟨c0, c1, c2, c3, c4⟩ := HM5.out.cells
    have k0 := cell_blk (j := 0) (u := .int .i64 a) HKB.out rfl
    have k1 := cell_blk (j := 1) (u := .int .i64 b) HKB.out rfl
    obtain ⟨w6, hst, hmo, hgr⟩ := MapO.store (w := w5.drew) HM5.out.drew.map (by rw [HM.out.keys.size]; have := HSM.out; unfold maxLen; omega) HWF.out.1 HWF.out.2 (seats.length : Int) ⟨by omega, by have := HSM.out; omega⟩
    have HM6 := Aside0.mk (HM5.out.drew.mapTurn hgr hmo)
    have HG6 := Aside0.mk hgr
    have HK6 : Aside0 (w6.heap[gk]? = some (.cells #[.int .i64 a, .int .i64 b] keyT (0, 0))) := ⟨(hgr.block gk (blk_lt HKB.out) (fun e => HGK.out (.inr (.inl (by injection e))))).trans HKB.out⟩
    clear hmo hgr
    have q2 := HM6.out.cells.2.2.1
    have q0 := cell_blk (j := 0) (u := .int .i64 a) HK6.out rfl
    have q1 := cell_blk (j := 1) (u := .int .i64 b) HK6.out rfl
    go_region_held3 (fun w' => w'.cell? ⟨lb, 2, none⟩ = some (.map (some mb)) ∧ w'.cell? ⟨gk, 0, none⟩ = some (.int .i64 a) ∧ w'.cell? ⟨gk, 1, none⟩ = some (.int .i64 b)) (first | exact ⟨c2, k0, k1⟩ | exact ⟨q2, q0, q1⟩ | go_keep) (fail)
    clear hst c0 c1 c2 c3 c4 k0 k1 q0 q1 q2
    have hL5 : Linked (nwF s5) (odF s5) newest oldest ord := HM.out.link.congr (fun x hx => (HN5.out x ((HM.out.all x).1 hx)).1) (fun x hx => (HN5.out x ((HM.out.all x).1 hx)).2)
    have HLK := Aside0.mk hL5
    have hni : seats.length ∉ ord := fun h => Nat.lt_irrefl _ ((HM.out.all _).1 h)
    have hr5 := head_room hL5.head hni (n := s5.length) (fun x hx => by rw [HL5.out]; have := (HM.out.all x).1 hx; omega)
    have HR5 := Aside0.mk hr5
    have HNI := Aside0.mk hni
    clear hL5 hni hr5
    go_wp2_with (go_at_call 120; refine (link_calls HM6.out seats.length (by rw [HL5.out]; omega) HR5.out).mono ?_; rintro e w7 ⟨rfl, s7, nw7, od7, hm7, hu7, hc7⟩; have HM7 := Aside0.mk hm7; have HU7 := Aside0.mk hu7; have HC7 := Aside0.mk hc7; clear hm7 hu7 hc7)
    go_ret3
    have hlen : s7.length = seats.length + 1 := HU7.out.len.trans HL5.out
    have hkey : ∀ j, keyF s7 j = if j = seats.length then (a, b) else keyF seats j := fun j => by rw [HU7.out.key]; exact HK5.out j
    refine ⟨rfl, v5, s7, nw7, od7, _, ⟨HM7.out, HU7.out.linked HLK.out HNI.out, fun x => ?_, ?_, HM.out.k1, by rw [hlen]; have := HK.out; omega⟩, hlen, hkey, ?_, HO5.out⟩
    · rw [hlen, List.mem_cons, HM.out.all x]
      omega
    · refine KeysOk.put_new (ks := keyF seats) (n := seats.length) (HM.out.m.map.tidy lruLaw) HWF.out.1 HWF.out.2 (by omega) (fun j hj hji => HM.out.keys.wf j (by omega)) (fun j hj hji => HM.out.keys.has j (by omega)) (fun a' b' ha hb hh => ?_) (fun x y hx hy hxi hyi hxy => HM.out.keys.inj x y (by omega) (by omega) hxy) HNO.out (by rw [HM.out.keys.size, hlen]) hkey
      obtain ⟨j, hj, he⟩ := HM.out.keys.only a' b' ha hb hh
      exact ⟨j, by omega, by omega, he⟩
    · exact (HC5.out.drew.then_ (Chg.of_grown HG6.out (S := LruS lb mb sv) (fun k hk => .inr (.inl (by injection hk with hk; exact hk.symm)))) (fun _ h => .inl h)).then_ HC7.out HO5.out
end Go.Proofs.Ytgcfcemgeppkmaa.P
