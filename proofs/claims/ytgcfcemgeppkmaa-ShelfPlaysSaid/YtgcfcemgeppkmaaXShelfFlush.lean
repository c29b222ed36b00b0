/-
  shelf.Flush of a shelf. PLAIN: what the counts say of what was asked, of what went out, of what is there.
-/
import Derived.Test.YtgcfcemgeppkmaaXShelfTold
namespace Go.Proofs.Ytgcfcemgeppkmaa.P
open Go.RowKit Go.Proofs.YtgcfcemgeppkmaaW.PrintWords Go.Proofs.YtgcfcemgeppkmaaW.PrintLast Go.Proofs.YtgcfcemgeppkmaaW.PrintMore
open Go.Proofs.Ytgcfcemgeppkmaa.Ord Go.Proofs.Ytgcfcemgeppkmaa.Dist
set_option linter.unusedVariables false
set_option linter.unusedSimpArgs false
variable {w w' : World} {own : Nat → Prop} {fv : Value} {kvs : List Kv} {kps : List Kept} {sb lb mb : Nat} {k : Int} {sv : Value} {seats : List Seat} {nw od : Int} {D : DataW Unit} {ord : List Nat} {c : Cnt}
/-- A shelf whose lru was cleared, with no fields. -/
theorem ShelfM.flushed {w1 : World} {mb' : Nat} (h : ShelfM w own sb lb k sv mb seats nw od D ord fv kvs kps c) (hmb : w.heap.size ≤ mb') (hl : LruOk w1 lb 0 k (.slice none 0 0) mb' [] (-1) (-1) (.map []) []) (hc : Chg (fun b => b = lb) w w1) :
    ∃ mb', Shelf0 (w1.setCell ⟨sb, 1, none⟩ (.slice none 0 0)) (ownN own w.heap.size (w1.setCell ⟨sb, 1, none⟩ (.slice none 0 0)).heap.size) sb lb k mb' c ∧ Chg own w (w1.setCell ⟨sb, 1, none⟩ (.slice none 0 0)) := by
  have hne : lb ≠ sb := h.apart.1 lb (.inl rfl)
  have hsl := h.lt
  have hb1 : w1.heap[sb]? = some (.cells (shCells lb fv c) 116 (0, 0)) := hc.blk h.blk (fun e => hne e.symm)
  have hc2 : Chg (fun b => b = sb) w1 (w1.setCell ⟨sb, 1, none⟩ (.slice none 0 0)) := (Chg.refl (fun b => b = sb) w1).set_ (.inl rfl) _
  have hs2 := hc2.size
  have hmlt : mb' < w1.heap.size := hl.m.map.lt
  refine ⟨mb', ⟨?_, ?_, .inl ⟨rfl, rfl⟩, rfl, fun i hi => absurd hi (by simp), .inl h.ownB, ?_, fun b hb => by simp [Value.ownBlock] at hb⟩, ?_⟩
  · have := set_blk hb1 1 (.slice none 0 0)
    exact this
  · refine { hl with m := hl.m.chg hc2 ?_ }
    rintro b (rfl | rfl | hb) e
    · exact hne e
    · have e' : b = sb := e
      omega
    · simp [Value.ownBlock] at hb
  · rintro b (rfl | rfl | hb)
    · exact .inl (h.ownL _ (.inl rfl))
    · exact .inr ⟨hmb, by omega⟩
    · simp [Value.ownBlock] at hb
  · exact (hc.mono (fun b hb => by have e : b = lb := hb; rw [e]; exact h.ownL _ (.inl rfl))).set_ (.inl h.ownB) _
set_option maxRecDepth 100000 in
set_option maxHeartbeats 2000000 in
theorem flushS_calls (h : ShelfM w own sb lb k sv mb seats nw od D ord fv kvs kps c) :
    Calls Try.prog 68 #[.pointer (some ⟨sb, 0, none⟩)] w fun e w' => e = .returned (.tuple #[]) ∧ ∃ mb', Shelf0 w' (ownN own w.heap.size w'.heap.size) sb lb k mb' c ∧ Chg own w w' := by
  have hp := cell_blk (j := 0) (u := .pointer (some ⟨lb, 0, none⟩)) h.blk rfl
  have hne : sb ≠ lb := fun e => h.apart.1 lb (.inl rfl) e.symm
  have HM := Aside0.mk h
  have HNE := Aside0.mk hne
  clear h hne
  go_enter Try.func68, Try.ntmps68
  go_wp2_with (go_at_call 101; refine (clear_calls (base := 0) HM.out.lru.m.blk (Nat.zero_le _) HM.out.lru.k1).mono ?_; rintro e w1 ⟨rfl, mb1, hmb, hl, hc⟩; have hb1 := hc.blk HM.out.blk HNE.out; have x1 := cell_blk (j := 1) (u := fv) hb1 rfl; have fr1 := free_blk hb1 1; have HL1 := Aside0.mk hl; have HC1 := Aside0.mk hc; have HMB := Aside0.mk hmb; clear hp hl hc hmb hb1)
  go_end0
  exact ⟨rfl, HM.out.flushed HMB.out HL1.out HC1.out⟩
/-- The counts: so many were asked, so many were flushed, so many are there. -/
structure CountI (c : Cnt) (n : Nat) (asks fl : Int) : Prop where
  z : c.re = 0 ∧ c.se = 0
  pos : 0 ≤ c.bu ∧ 0 ≤ c.hi ∧ 0 ≤ c.st ∧ 0 ≤ c.ev ∧ 0 ≤ fl
  sum : c.hi + c.bu = asks
  stale : c.st ≤ c.bu
  built : c.bu = c.st + c.ev + fl + n
theorem CountI.ok {n : Nat} {asks fl : Int} (h : CountI c n asks fl) (ha : asks ≤ 1000000) : c.ok := by
  obtain ⟨⟨h1, h2⟩, ⟨h3, h4, h5, h6, h7⟩, h8, h9, h10⟩ := h
  unfold Cnt.ok
  omega
end Go.Proofs.Ytgcfcemgeppkmaa.P
