/-
  shelf.Flush of a shelf. PLAIN: what the counts say of what was asked, of what went out, of what is there.
-/
import Derived.Test.YtgcfcemgeppkmaaXShelfTold
namespace Go.Proofs.Ytgcfcemgeppkmaa.P
open Go.RowKit Go.Proofs.YtgcfcemgeppkmaaW.PrintWords Go.Proofs.YtgcfcemgeppkmaaW.PrintLast Go.Proofs.YtgcfcemgeppkmaaW.PrintMore
open Go.Proofs.Ytgcfcemgeppkmaa.Ord Go.Proofs.Ytgcfcemgeppkmaa.Dist
set_option linter.unusedVariables false
set_option linter.unusedSimpArgs false
variable {w w' : World} {own : Nat → Prop} {fv : Value} {kvs : List Kv} {kps : List Kept} {sb lb mb : Nat} {k : Int} {sv : Value} {seats : List Seat} {nw od : Int} {D : DataW Unit} {ord : List Nat} {c : Cnt}
/-- A shelf whose lru was cleared, with no fields. -/
theorem ShelfM.flushed {w1 : World} {mb' : Nat} (h : ShelfM w own sb lb k sv mb seats nw od D ord fv kvs kps c) (hmb : w.heap.size ≤ mb') (hl : LruOk w1 lb 0 k (.slice none 0 0) mb' [] (-1) (-1) (.map []) []) (hc : Chg (fun b => b = lb) w w1) :
    ∃ mb', Shelf0 (w1.setCell ⟨sb, 1, none⟩ (.slice none 0 0)) (ownN own w.heap.size (w1.setCell ⟨sb, 1, none⟩ (.slice none 0 0)).heap.size) sb lb k mb' c ∧ Chg own w (w1.setCell ⟨sb, 1, none⟩ (.slice none 0 0)) := by
  have hne : lb ≠ sb := h.apart.1 lb (.inl rfl)
  have hsl := h.lt
  have hb1 : w1.heap[sb]? = some (.cells (shCells lb fv c) 116 (0, 0)) := hc.blk h.blk (fun e => hne e.symm)
  have hc2 : Chg (fun b => b = sb) w1 (w1.setCell ⟨sb, 1, none⟩ (.slice none 0 0)) := (Chg.refl (fun b => b = sb) w1).set_ (.inl rfl) _
  have hs2 := hc2.size
  have hmlt : mb' < w1.heap.size := hl.m.map.lt
  refine ⟨mb', ⟨?_, ?_, .inl ⟨rfl, rfl⟩, rfl, fun i hi => absurd hi (by simp), .inl h.ownB, ?_, fun b hb => by simp [Value.ownBlock] at hb⟩, ?_⟩
  · have := set_blk hb1 1 (.slice none 0 0)
    exact this
  · refine { hl with m := hl.m.chg hc2 ?_ }
    rintro b (rfl | rfl | hb) e
    · exact hne e
    · have e' : b = sb := e
      omega
    · simp [Value.ownBlock] at hb
  · rintro b (rfl | rfl | hb)
    · exact .inl (h.ownL _ (.inl rfl))
    · exact .inr ⟨hmb, by omega⟩
    · simp [Value.ownBlock] at hb
  · exact (hc.mono (fun b hb => by have e : b = lb := hb; rw [e]; exact h.ownL _ (.inl rfl))).set_ (.inl h.ownB) _
set_option maxRecDepth 100000 in
set_option maxHeartbeats 2000000 in
theorem flushS_calls (h : ShelfM w own sb lb k sv mb seats nw od D ord fv kvs kps c) :
    Calls Try.prog 68 #[.pointer (some ⟨sb, 0, none⟩)] w fun e w' => e = .returned (.tuple #[]) ∧ ∃ mb', Shelf0 w' (ownN own w.heap.size w'.heap.size) sb lb k mb' c ∧ Chg own w w' := by
  have hp := cell_blk (j := 0) (u := .pointer (some ⟨lb, 0, none⟩)) h.blk rfl
  have hne : sb ≠ lb := fun e => h.apart.1 lb (.inl rfl) e.symm
  have HM := Aside0.mk h
  have HNE := Aside0.mk hne
  clear h hne
  go_enter Try.func68, Try.ntmps68
  go_wp2_with (go_at_call 101; refine (clear_calls (base := 0) HM.out.lru.m.blk (Nat.zero_le _) HM.out.lru.k1).mono ?_; rintro e w1 ⟨rfl, mb1, hmb, hl, hc⟩; have hb1 := hc.blk HM.out.blk HNE.out; have x1 := cell_blk (j := 1) (u := fv) hb1 rfl; have fr1 := free_blk hb1 1; have HL1 := Aside0.mk hl; have HC1 := Aside0.mk hc; have HMB := Aside0.mk hmb; clear hp hl hc hmb hb1)
  go_end0
  exact ⟨rfl, HM.out.flushed HMB.out HL1.out HC1.out⟩
theorem nodupLen {n : Nat} : ∀ {l : List Nat}, l.Nodup → (∀ i, i ∈ l ↔ i < n) → l.length = n := by
  intro l hn ha
  have hp : l.Perm (List.range n) := by
    refine (List.perm_ext_iff_of_nodup hn List.nodup_range).2 fun i => ?_
    rw [ha i, List.mem_range]
  simpa using hp.length_eq
theorem ShelfM.ordLen (h : ShelfM w own sb lb k sv mb seats nw od D ord fv kvs kps c) : ord.length = seats.length := nodupLen h.lru.link.nodup h.lru.all
/-- The counts: so many were asked, so many were flushed, so many are there. -/
structure CountI (c : Cnt) (n : Nat) (asks fl : Int) : Prop where
  z : c.re = 0 ∧ c.se = 0
  pos : 0 ≤ c.bu ∧ 0 ≤ c.hi ∧ 0 ≤ c.st ∧ 0 ≤ c.ev ∧ 0 ≤ fl
  sum : c.hi + c.bu = asks
  stale : c.st ≤ c.bu
  built : c.bu = c.st + c.ev + fl + n
theorem CountI.ok {n : Nat} {asks fl : Int} (h : CountI c n asks fl) (ha : asks ≤ 1000000) : c.ok := by
  obtain ⟨⟨h1, h2⟩, ⟨h3, h4, h5, h6, h7⟩, h8, h9, h10⟩ := h
  unfold Cnt.ok
  omega
theorem GotS.counted {n : Nat} {ks : Nat → Int × Int} {a b ver : Int} {s : List Seed} {Dst Drs : List Int} {n' : Nat} {ks' : Nat → Int × Int} {ord' : List Nat} {kps' : List Kept} {c' : Cnt} {dist dirs : List Int} {slot : Nat} {had out : Bool} {asks fl : Int} (h : GotS n k ks ord kps c a b ver s Dst Drs n' ks' ord' kps' c' dist dirs slot had out) (hI : CountI c n asks fl) :
    CountI c' n' (asks + 1) fl ∧ (∃ r, ord' = slot :: r) ∧ ks' slot = (a, b) ∧ slot < n' := by
  obtain ⟨⟨h1, h2⟩, ⟨h3, h4, h5, h6, h7⟩, h8, h9, h10⟩ := hI
  have hu : (∃ r, ord' = slot :: r) ∧ ks' slot = (a, b) ∧ slot < n' := by
    cases had with
    | true =>
      obtain ⟨u1, u2, _, u4, u5, u6⟩ := h.used.hit rfl
      exact ⟨⟨_, u6⟩, by rw [u5]; exact u2, by omega⟩
    | false =>
      have hm := (h.used.miss rfl).2 slot
      rw [if_pos rfl] at hm
      by_cases hk : (n : Int) < k
      · obtain ⟨u1, _, u3, u4⟩ := h.used.fresh rfl hk
        exact ⟨⟨ord, by rw [u4, u1]⟩, hm, by omega⟩
      · obtain ⟨u1, _, _, u3, u4⟩ := h.used.evict rfl hk
        exact ⟨⟨_, u4⟩, hm, by omega⟩
  refine ⟨?_, hu⟩
  by_cases hh : had = true ∧ (kps.getD slot default).ver = ver ∧ (kps.getD slot default).seeds = s
  · obtain ⟨_, _, _, e⟩ := h.hit hh.1 hh.2.1 hh.2.2
    have := (h.used.hit hh.1).2.2.2.1
    subst e
    exact ⟨⟨h1, h2⟩, ⟨h3, by simp only; omega, h5, h6, h7⟩, by simp only; omega, h9, by simp only; omega⟩
  · obtain ⟨_, _, _, _, e⟩ := h.build hh
    subst e
    cases had with
    | true =>
      obtain ⟨_, _, u3, u4, _⟩ := h.used.hit rfl
      subst u3
      exact ⟨⟨h1, h2⟩, ⟨by simp only; omega, h4, by simp; omega, by simp; omega, h7⟩, by simp only; omega, by simp; omega, by simp; omega⟩
    | false =>
      by_cases hk : (n : Int) < k
      · obtain ⟨_, u2, u3, _⟩ := h.used.fresh rfl hk
        subst u2
        exact ⟨⟨h1, h2⟩, ⟨by simp only; omega, h4, by simp; omega, by simp; omega, h7⟩, by simp only; omega, by simp; omega, by simp; omega⟩
      · obtain ⟨_, _, u2, u3, _⟩ := h.used.evict rfl hk
        subst u2
        exact ⟨⟨h1, h2⟩, ⟨by simp only; omega, h4, by simp; omega, by simp; omega, h7⟩, by simp only; omega, by simp; omega, by simp; omega⟩
theorem CountI.flush {n : Nat} {asks fl : Int} (h : CountI c n asks fl) : CountI c 0 asks (fl + n) := by
  obtain ⟨h1, h2, h3, h4, h5⟩ := h
  exact ⟨h1, by omega, h3, h4, by omega⟩
end Go.Proofs.Ytgcfcemgeppkmaa.P
