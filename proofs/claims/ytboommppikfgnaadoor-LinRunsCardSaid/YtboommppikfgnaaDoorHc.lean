/- Contract of hist's End.
   Conditions: the history has at most 1000 events. -/
import Derived.Test.YtboommppikfgnaaDoorHb
namespace Go.Proofs.YtboommppikfgnaaDoor
open Go Go.RowKit

/-- one cell, and a small block -/
def CellBlk (b : Nat) (v : Value) (q : Nat) (cs : Array Value) (w : World) : Prop := w.cell? ⟨b, 0, none⟩ = some v ∧ ∀ i, w.cell? ⟨q, i, none⟩ = cs[i]?

set_option maxRecDepth 100000 in
set_option maxHeartbeats 3200000 in
theorem hist_end_ok (b : Nat) (s : HS) (B : Nat) (t k : Nat) (code : Int) (ok : Bool) (val : Int) (w : World) (h : HAt w B b s) (hBw : B ≤ w.heap.size) (ht : t < 8) (hno : s.now t = ((k + 1 : Nat) : Int)) (hsz : s.evs.length ≤ 1000) :
    Calls Tryd.prog 18 #[.pointer (some ⟨b, 0, none⟩), .int .i64 t, .agg #[.int .i64 code, .bool ok, .int .i64 val]] w fun e w' =>
      e = .returned (.int .i64 0) ∧ HAt w' B b (s.doE t code ok val) ∧ Kp B [83, 64, 88] w w' := by
  obtain ⟨iE, hiE, zE, sE, bE⟩ := info_parts info_Event
  obtain ⟨v1, v2, cs, hr⟩ := h.at_
  have hwf := h.wf
  have hbase := h.base
  have hle := hwf.le
  have hbl := hr.lt
  have hkl : k < s.calls.length := by have := hwf.hi t; rw [hno] at this; omega
  have hkb : (decide (0 ≤ (t : Int)) && decide ((t : Int) < 8)) = true := by simp; omega
  have hp : s.pend t = true := by simp only [HS.pend, hkb, Int.toNat_natCast, hno]; simp
  have HK := Lib.hid hkb
  have HP := Lib.hid hp
  have HN := Lib.hid hno
  clear hkb hp hno
  go_enter Tryd.func18, Tryd.ntmps18
  go_wp2_with (first
    | (go_at_call 31; refine (hist_known _ _).mono ?_; rw [HK.out]; rintro e w1 ⟨rfl, rfl⟩)
    | (go_at_call 32; refine (hist_pending b s B _ _ (h.alloc _)).mono ?_; rw [HP.out]; rintro e w1 ⟨rfl, rfl⟩))
  obtain ⟨A1, m1, rfl, -⟩ := own_form hr.o1
  obtain ⟨g, m2, rfl⟩ : ∃ g cap, v2 = .slice (some ⟨g, 0, none⟩) s.calls.length cap := by
    obtain ⟨A2, m2, h2, _, h3, h4⟩ := own_form hr.o2
    cases A2 with
    | none => have := h3 rfl; omega
    | some a => rw [h4 a rfl] at h2; exact ⟨_, _, h2⟩
  have hr0 := hr.alloc (.cells #[.int .i64 code, .bool ok, .int .i64 val] 50)
  have hq0 := Blk.new w 50 #[.int .i64 code, .bool ok, .int .i64 val]
  have k0 : Kp B [83, 64, 88] w (w.alloc (.cells #[.int .i64 code, .bool ok, .int .i64 val] 50)) := (Kp.refl _ _ _).alloc hBw _
  clear hr h
  generalize (w.alloc (.cells #[.int .i64 code, .bool ok, .int .i64 val] 50)) = W at *
  have hWl := hr0.lt
  have f1 := Later.cell (B := W.heap.size) hr0.f1 hr0.lt
  have f2 := Later.cell (B := W.heap.size) (hr0.fn ht) hr0.lt
  rw [HN.out] at f2
  have hi0 : (0 : Int) ≤ (t : Int) := Int.natCast_nonneg _
  have hi1 : (t : Int) < 8 := by omega
  refine wp_region_later W.heap.size (by kernel_rfl) (by kernel_rfl) ?_
  repeat (go_big_quiet_step (fail))
  refine wpQuiet_nil ?_
  intro W1 hq
  obtain ⟨q, hq⟩ := hq
  have hb1 : Below W.heap.size W W1 := by rw [hq]; exact q.below
  clear hq q f1 f2
  have hr1 := hr0.step hb1
  have hq1 := hq0.step hb1
  have k1 := k0.step (by omega) hb1
  clear hr0 hq0 k0 hb1 hWl
  -- the call's cells
  have hgb : b ≠ g := by
    obtain ⟨_, cs', h'⟩ := own_at hr1.o2 g rfl
    exact Blk.ne_ hr1.blk h' (by decide)
  have hgq : w.heap.size ≠ g := by
    obtain ⟨_, cs', h'⟩ := own_at hr1.o2 g rfl
    exact Blk.ne_ hq1 h' (by decide)
  have hgB : B ≤ g ∧ ∃ cs', Blk W1 g 88 cs' := own_at hr1.o2 g rfl
  have hS : (CellBlk b (.slice A1 s.evs.length m1) w.heap.size #[.int .i64 code, .bool ok, .int .i64 val]) W1.drew := ⟨hr1.f0, hq1.cells⟩
  have hne := Such.ne_ hS
  have f1 : ∀ q : Such (CellBlk b (.slice A1 s.evs.length m1) w.heap.size #[.int .i64 code, .bool ok, .int .i64 val]), q.val.cell? ⟨b, 0, none⟩ = some (.slice A1 s.evs.length m1) := fun q => q.ok.1
  have f2 : ∀ (q : Such (CellBlk b (.slice A1 s.evs.length m1) w.heap.size #[.int .i64 code, .bool ok, .int .i64 val])) (i : Nat), q.val.cell? ⟨w.heap.size, i, none⟩ = (#[.int .i64 code, .bool ok, .int .i64 val] : Array Value)[i]? := fun q => q.ok.2
  go_wp2_with fail
  refine wp_region_lead (fun w' => ∃ q : Such (CellBlk b (.slice A1 s.evs.length m1) w.heap.size #[.int .i64 code, .bool ok, .int .i64 val]), w' = q.val) 12 [0, 1, 2, 3, 4, 5, 6, 7, 8, 9, 10] [11, 12, 13, 14] (by kernel_rfl) (by kernel_rfl) (Such.mk_ hS) ?_
  simp only [opsAt, List.map_cons, List.map_nil, List.getD_cons_zero, List.getD_cons_succ]
  repeat (go_big_quiet_step (fail))
  refine wpQuiet_nil ?_
  refine wpTail_early rfl (fun K hK => ?_)
  obtain ⟨c, hc⟩ : ∃ c, s.calls[k]? = some c := ⟨_, List.getElem?_eq_getElem hkl⟩
  have hcell : ∀ j, j < 9 → W1.cell? ⟨g, k * 9 + j, none⟩ = (HC.cells c)[j]? := fun j hj => by
    have h1 := hr1.o2.cellAt (k * 9 + j) (by omega)
    rw [h1, flat_at HC.cells 9 HC.cells_len _ _ _ _ hc hj]
  have c1 := hcell 1 (by omega)
  have c6 := hcell 6 (by omega)
  have c7 := hcell 7 (by omega)
  have c8 := hcell 8 (by omega)
  simp only [HC.cells, List.getElem?_cons_succ, List.getElem?_cons_zero] at c1 c6 c7 c8
  have hfz : ∀ j, W1.frozen? ⟨g, j, none⟩ = false := by
    obtain ⟨_, cs', h'⟩ := hgB
    exact h'.frozen
  go_simp
  refine hK _ _ (Such.mk_ ⟨?_, fun i => ?_⟩) ?_
  · exact (World.cell?_setCell_other _ _ _ _ (by simp)).trans hr1.f0
  · exact (World.cell?_setCell_other _ _ _ _ (by simp)).trans (hq1.cell i)
  clear hK K
  refine wpTail_late _ _ _ (by kernel_rfl) ?_
  simp only [opsAt, List.map_cons, List.map_nil, List.getD_cons_zero, List.getD_cons_succ]
  clear f1 f2 hne hS hcell
  go_wp2_with fail
  obtain ⟨cs', hgb'⟩ := hgB.2
  have hr2 := (hr1.putCall (by decide) (by decide) hkl s.evs.length code ok val).drew
  have k2 := ((((k1.setB hgb' hgB.1 (by decide) (k * 9 + 1) (.int .i64 s.evs.length)).setB (hgb'.set_ _ _) hgB.1 (by decide) (k * 9 + 6) (.int .i64 code)).setB ((hgb'.set_ _ _).set_ _ _) hgB.1 (by decide) (k * 9 + 6 + 1) (.bool ok)).setB (((hgb'.set_ _ _).set_ _ _).set_ _ _) hgB.1 (by decide) (k * 9 + 6 + 2) (.int .i64 val)).drew
  have hq2 := ((((hq1.far (p := ⟨g, k * 9 + 1, none⟩) hgq (.int .i64 s.evs.length)).far (p := ⟨g, k * 9 + 6, none⟩) hgq (.int .i64 code)).far (p := ⟨g, k * 9 + 6 + 1, none⟩) hgq (.bool ok)).far (p := ⟨g, k * 9 + 6 + 2, none⟩) hgq (.int .i64 val)).drew
  clear c1 c6 c7 c8 hfz hr1 hq1 k1 hgb' cs' hc
  refine NoPanic.normal ?_
  generalize (World.drew ((((W1.setCell ⟨g, k * 9 + 1, none⟩ (.int .i64 s.evs.length)).setCell ⟨g, k * 9 + 6, none⟩ (.int .i64 code)).setCell ⟨g, k * 9 + 6 + 1, none⟩ (.bool ok)).setCell ⟨g, k * 9 + 6 + 2, none⟩ (.int .i64 val))) = W2 at *
  clear hgB hgb hgq
  go_wp2_with fail
  -- the events
  have hW2 := hr2.lt
  have f0 := Later.cell (B := W2.heap.size) hr2.f0 hr2.lt
  have f2 := Later.cells hq2 hq2.lt
  refine wp_region_lead (fun w' => ∃ q : Later W2.heap.size W2, w' = q.val) 9 [0, 1, 2, 3, 4, 5, 6, 7] [8, 9, 10, 11, 12] (by kernel_rfl) (by kernel_rfl) (Later.mk_ (Below.refl _ _).drew) ?_
  simp only [opsAt, List.map_cons, List.map_nil, List.getD_cons_zero, List.getD_cons_succ]
  repeat (go_big_quiet_step (fail))
  refine wpQuiet_nil ?_
  refine wpTail_early rfl (fun K hK => ?_)
  go_simp
  refine hK _ _ (Later.mk_ ((Below.refl _ _).alloc (Nat.le_refl _) _).drew) ?_
  clear hK K
  refine wpTail_late _ _ _ (by kernel_rfl) ?_
  simp only [opsAt, List.map_cons, List.map_nil, List.getD_cons_zero, List.getD_cons_succ]
  refine wpList_append_lies _ rfl _ _ _ rfl B 64 iE _ 7 56 Tryd.underlying80 hiE zE sE bE rfl (by omega) (.slice A1 s.evs.length m1) s.evs.length (s.evs.flatMap Ev.cells) rfl ((hr2.o1.alloc _).drew) ⟨W2.heap.size, 0, none⟩ 1 1 (Ev.cells (evE t code ok val)) rfl rfl (World.news_of_block (heap_alloc_new W2 _)) (Ev.cells_one _) (by omega) (by unfold maxLen; omega) (by omega) (by simp; omega) (W2.heap.size + 1) (by simp) ?_
  intro g2 cap2 w3 hown1 hgrow hat hlt
  have fb := Blk.grown (Blk.drew (hr2.blk.alloc (.cells #[.int .i64 t, .bool true, .int .i64 0, .int .i64 0, .int .i64 code, .bool ok, .int .i64 val] 64))) hgrow (own_ne hr2.o1 hr2.blk (by decide))
  have fz := fb.frozen 0
  have fc := (fb.cell 0).trans hr2.c0
  have k3 : Kp B [83, 64, 88] w w3 := ((k2.alloc (by omega) _).drew).own ((hr2.o1.alloc _).drew) (Nat.le_refl _) (by simp; omega) (by decide) hgrow
  have hr3 := ((hr2.alloc (.cells #[.int .i64 t, .bool true, .int .i64 0, .int .i64 0, .int .i64 code, .bool ok, .int .i64 val] 64)).drew).putEvs (by decide) (by decide) (by decide) (evs' := s.evs ++ [evE t code ok val]) (n' := s.evs.length + 1) (by simp) (by simpa using hown1) hgrow
  have k4 := k3.setB fb hbase (by decide) 0 (.slice (some ⟨g2, 0, none⟩) (s.evs.length + 1) cap2)
  clear f0 f2 hown1 hgrow hat hr2 hq2 k2 k3 fb
  go_wp2_with fail
  refine NoPanic.normal ?_
  generalize (w3.setCell ⟨b, 0, none⟩ (.slice (some ⟨g2, 0, none⟩) (s.evs.length + 1) cap2)) = W3 at *
  clear fz fc hlt
  have fz := hr3.blk.frozen (2 + t)
  have fc := hr3.fn ht
  have hr4 := hr3.putNow (by decide) (by decide) ht 0
  have k5 := k4.setB hr3.blk hbase (by decide) (2 + t) (.int .i64 0)
  clear hr3 k4
  go_wp2_with fail
  go_ret
  exact ⟨rfl, ⟨HS.wf_doE hwf _ _ _ _, hbase, _, _, _, by simpa only [HS.doE, HN.out, show ((k + 1 : Nat) : Int) - 1 = (k : Int) from by omega, Int.toNat_natCast] using hr4⟩, k5⟩

/-- End, whatever the thread -/
theorem hist_end (b : Nat) (s : HS) (B : Nat) (t code : Int) (ok : Bool) (val : Int) (w : World) (h : HAt w B b s) (hBw : B ≤ w.heap.size) (hsz : s.evs.length ≤ 1000) :
    Calls Tryd.prog 18 #[.pointer (some ⟨b, 0, none⟩), .int .i64 t, .agg #[.int .i64 code, .bool ok, .int .i64 val]] w fun e w' =>
      e = .returned (.int .i64 (s.errE t)) ∧ HAt w' B b (s.end_ t code ok val) ∧ Kp B [83, 64, 88] w w' := by
  by_cases hk : 0 ≤ t ∧ t < 8
  · obtain ⟨t, rfl⟩ := Int.eq_ofNat_of_zero_le hk.1
    have ht : t < 8 := by omega
    have hk' : ¬ ((t : Int) < 0 ∨ 8 ≤ (t : Int)) := by omega
    by_cases hp : 0 < s.now t
    · have he : s.errE t = 0 := by simp only [HS.errE, if_neg hk', Int.toNat_natCast, if_pos hp]
      have hs : s.end_ t code ok val = s.doE t code ok val := by simp only [HS.end_, he, Int.toNat_natCast]; rfl
      rw [he, hs]
      exact hist_end_ok b s B t (s.now t - 1).toNat code ok val w h hBw ht (by omega) hsz
    · have he : s.errE t = 5 := by simp only [HS.errE, if_neg hk', Int.toNat_natCast, if_neg hp]
      have hs : s.end_ t code ok val = s := by simp only [HS.end_, he]; rfl
      rw [he, hs]
      have hkb : (decide (0 ≤ (t : Int)) && decide ((t : Int) < 8)) = true := by simp; omega
      have hpb : s.pend t = false := by simp only [HS.pend, hkb, Int.toNat_natCast]; simpa using hp
      have HK := Lib.hid hkb
      have HP := Lib.hid hpb
      have hb2 : Below w.heap.size w (w.alloc (.cells #[.int .i64 code, .bool ok, .int .i64 val] 50)) := (Below.refl _ _).alloc (Nat.le_refl _) _
      clear hkb hpb he hs hk' hk
      go_enter Tryd.func18, Tryd.ntmps18
      go_wp2_with (first
        | (go_at_call 31; refine (hist_known _ _).mono ?_; rw [HK.out]; rintro e w1 ⟨rfl, rfl⟩)
        | (go_at_call 32; refine (hist_pending b s B _ _ (h.alloc _)).mono ?_; rw [HP.out]; rintro e w1 ⟨rfl, rfl⟩))
      go_ret
      exact ⟨rfl, h.step hb2, (Kp.refl _ _ _).step hBw hb2⟩
  · have hk' : t < 0 ∨ 8 ≤ t := by omega
    have he : s.errE t = 2 := by simp only [HS.errE, if_pos hk']
    have hs : s.end_ t code ok val = s := by simp only [HS.end_, he]; rfl
    rw [he, hs]
    have hkb : (decide (0 ≤ t) && decide (t < 8)) = false := by simp; omega
    have HK := Lib.hid hkb
    have hb2 : Below w.heap.size w (w.alloc (.cells #[.int .i64 code, .bool ok, .int .i64 val] 50)) := (Below.refl _ _).alloc (Nat.le_refl _) _
    clear hkb he hs hk' hk
    go_enter Tryd.func18, Tryd.ntmps18
    go_wp2_with (go_at_call 31; refine (hist_known _ _).mono ?_; rw [HK.out]; rintro e w1 ⟨rfl, rfl⟩)
    go_ret
    exact ⟨rfl, h.step hb2, (Kp.refl _ _ _).step hBw hb2⟩

end Go.Proofs.YtboommppikfgnaaDoor
