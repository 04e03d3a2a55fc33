/- Contracts of hist's Begin and End.
   Conditions: the history has at most 1000 events. -/
import Derived.Test.YtboommppikfgnaaDoorHa
import Derived.Test.YtboommppikfgnaaDoorLead
import Derived.Deep.RegionHeld3
import Derived.Deep.AppendLies
import Derived.KernelRfl
namespace Go.Proofs.YtboommppikfgnaaDoor
open Go Go.RowKit

theorem info_Event : (Tryd.prog.info? 64).map (fun i => (i.zero, i.size, i.bytes)) = some (some (.agg #[.int .i64 0, .bool false, .int .i64 0, .int .i64 0, .int .i64 0, .bool false, .int .i64 0]), 7, 56) := by kernel_rfl
theorem info_Call : (Tryd.prog.info? 88).map (fun i => (i.zero, i.size, i.bytes)) = some (some (.agg #[.int .i64 0, .int .i64 0, .int .i64 0, .int .i64 0, .int .i64 0, .int .i64 0, .int .i64 0, .bool false, .int .i64 0]), 9, 72) := by kernel_rfl

set_option maxRecDepth 100000 in
set_option maxHeartbeats 3200000 in
theorem hist_begin_ok (b : Nat) (s : HS) (B : Nat) (t : Nat) (kind key : Int) (w : World) (h : HAt w B b s) (hBw : B ≤ w.heap.size) (ht : t < 8) (hno : ¬ 0 < s.now t) (hsz : s.evs.length ≤ 1000) :
    Calls Tryd.prog 17 #[.pointer (some ⟨b, 0, none⟩), .int .i64 t, .agg #[.int .i64 kind, .int .i64 key]] w fun e w' =>
      e = .returned (.int .i64 0) ∧ HAt w' B b (s.doB t kind key) ∧ Kp B [83, 64, 88] w w' := by
  obtain ⟨iE, hiE, zE, sE, bE⟩ := info_parts info_Event
  obtain ⟨iC, hiC, zC, sC, bC⟩ := info_parts info_Call
  obtain ⟨v1, v2, cs, hr⟩ := h.at_
  have hwf := h.wf
  have hbase := h.base
  have hle := hwf.le
  have hbl := hr.lt
  have hkb : (decide (0 ≤ (t : Int)) && decide ((t : Int) < 8)) = true := by simp; omega
  have hp : s.pend t = false := by simp [HS.pend]; omega
  have HK := Lib.hid hkb
  have HP := Lib.hid hp
  clear hkb hp
  go_enter Tryd.func17, Tryd.ntmps17
  go_wp2_with (first
    | (go_at_call 31; refine (hist_known _ _).mono ?_; rw [HK.out]; rintro e w1 ⟨rfl, rfl⟩)
    | (go_at_call 32; refine (hist_pending b s B _ _ (h.alloc _)).mono ?_; rw [HP.out]; rintro e w1 ⟨rfl, rfl⟩))
  obtain ⟨A1, m1, rfl, -⟩ := own_form hr.o1
  obtain ⟨A2, m2, rfl, -⟩ := own_form hr.o2
  have hr0 := hr.alloc (.cells #[.int .i64 kind, .int .i64 key] 43)
  have hq0 := Blk.new w 43 #[.int .i64 kind, .int .i64 key]
  have k0 : Kp B [83, 64, 88] w (w.alloc (.cells #[.int .i64 kind, .int .i64 key] 43)) := (Kp.refl _ _ _).alloc hBw _
  clear hr h
  generalize (w.alloc (.cells #[.int .i64 kind, .int .i64 key] 43)) = W at *
  have hWl := hr0.lt
  have f0 := Later.cell (B := W.heap.size) hr0.f0 hr0.lt
  have f1 := Later.cell (B := W.heap.size) hr0.f1 hr0.lt
  have f2 := Later.cells hq0 hq0.lt
  refine wp_region_lead (fun w' => ∃ q : Later W.heap.size W, w' = q.val) 20 [0, 1, 2, 3, 4, 5, 6, 7, 8, 9, 10, 11, 12, 13, 14, 15, 16, 17, 18] [19, 20, 21, 22, 23] (by kernel_rfl) (by kernel_rfl) (Later.mk_ (Below.refl _ _).drew) ?_
  simp only [opsAt, List.map_cons, List.map_nil, List.getD_cons_zero, List.getD_cons_succ]
  repeat (go_big_quiet_step (fail))
  refine wpQuiet_nil ?_
  refine wpTail_early rfl (fun K hK => ?_)
  go_simp
  refine hK _ _ (Later.mk_ ((Below.refl _ _).alloc (Nat.le_refl _) _).drew) ?_
  clear hK K
  refine wpTail_late _ _ _ (by kernel_rfl) ?_
  simp only [opsAt, List.map_cons, List.map_nil, List.getD_cons_zero, List.getD_cons_succ]
  refine wpList_append_lies _ rfl _ _ _ rfl B 88 iC _ 9 72 Tryd.underlying73 hiC zC sC bC rfl (by omega) (.slice A2 s.calls.length m2) s.calls.length (s.calls.flatMap HC.cells) rfl ((hr0.o2.alloc _).drew) ⟨W.heap.size, 0, none⟩ 1 1 (HC.cells ⟨s.evs.length, -1, s.calls.length, t, kind, key, 0, false, 0⟩) rfl rfl (World.news_of_block (heap_alloc_new W _)) (HC.cells_one _) (by omega) (by unfold maxLen; omega) (by omega) (by simp; omega) (W.heap.size + 1) (by simp) ?_
  intro gg cap w1 hown1 hgrow hat hlt
  have fb := Blk.grown (Blk.drew (hr0.blk.alloc (.cells #[.int .i64 s.evs.length, .int .i64 (-1), .int .i64 s.calls.length, .int .i64 t, .int .i64 kind, .int .i64 key, .int .i64 0, .bool false, .int .i64 0] 88))) hgrow (own_ne hr0.o2 hr0.blk (by decide))
  have fz := fb.frozen 1
  have fc := (fb.cell 1).trans hr0.c1
  have k1 : Kp B [83, 64, 88] w w1 := ((k0.alloc (by omega) _).drew).own ((hr0.o2.alloc _).drew) (Nat.le_refl _) (by simp; omega) (by decide) hgrow
  have hq1 : Blk w1 w.heap.size 43 #[.int .i64 kind, .int .i64 key] := Blk.grown (Blk.drew (hq0.alloc _)) hgrow (own_ne hr0.o2 hq0 (by decide))
  have hr1 := ((hr0.alloc (.cells #[.int .i64 s.evs.length, .int .i64 (-1), .int .i64 s.calls.length, .int .i64 t, .int .i64 kind, .int .i64 key, .int .i64 0, .bool false, .int .i64 0] 88)).drew).putCalls (by decide) (by decide) (by decide) (calls' := s.calls ++ [⟨s.evs.length, -1, s.calls.length, t, kind, key, 0, false, 0⟩]) (n' := s.calls.length + 1) (by simp) (by simpa using hown1) hgrow
  have k1' := k1.setB fb hbase (by decide) 1 (.slice (some ⟨gg, 0, none⟩) (s.calls.length + 1) cap)
  have hq1' := hq1.far (p := ⟨b, 1, none⟩) (hq1.ne_ fb (by decide)) (.slice (some ⟨gg, 0, none⟩) (s.calls.length + 1) cap)
  clear f0 f1 f2 hown1 hgrow hat hr0 hq0 k0 hq1 k1 fb
  go_wp2_with fail
  refine NoPanic.normal ?_
  generalize (w1.setCell ⟨b, 1, none⟩ (.slice (some ⟨gg, 0, none⟩) (s.calls.length + 1) cap)) = W2 at *
  clear fz fc hlt
  go_wp2_with fail
  -- the events
  obtain ⟨A2', m2', hv2, -⟩ := own_form hr1.o2
  have hW2 := hr1.lt
  have f0 := Later.cell (B := W2.heap.size) hr1.f0 hr1.lt
  have f2 := Later.cells hq1' hq1'.lt
  refine wp_region_lead (fun w' => ∃ q : Later W2.heap.size W2, w' = q.val) 9 [0, 1, 2, 3, 4, 5, 6, 7] [8, 9, 10, 11, 12] (by kernel_rfl) (by kernel_rfl) (Later.mk_ (Below.refl _ _).drew) ?_
  simp only [opsAt, List.map_cons, List.map_nil, List.getD_cons_zero, List.getD_cons_succ]
  repeat (go_big_quiet_step (fail))
  refine wpQuiet_nil ?_
  refine wpTail_early rfl (fun K hK => ?_)
  go_simp
  refine hK _ _ (Later.mk_ ((Below.refl _ _).alloc (Nat.le_refl _) _).drew) ?_
  clear hK K
  refine wpTail_late _ _ _ (by kernel_rfl) ?_
  simp only [opsAt, List.map_cons, List.map_nil, List.getD_cons_zero, List.getD_cons_succ]
  refine wpList_append_lies _ rfl _ _ _ rfl B 64 iE _ 7 56 Tryd.underlying80 hiE zE sE bE rfl (by omega) (.slice A1 s.evs.length m1) s.evs.length (s.evs.flatMap Ev.cells) rfl ((hr1.o1.alloc _).drew) ⟨W2.heap.size, 0, none⟩ 1 1 (Ev.cells (evB t kind key)) rfl rfl (World.news_of_block (heap_alloc_new W2 _)) (Ev.cells_one _) (by omega) (by unfold maxLen; omega) (by omega) (by simp; omega) (W2.heap.size + 1) (by simp) ?_
  intro g2 cap2 w3 hown1 hgrow hat hlt
  have fb := Blk.grown (Blk.drew (hr1.blk.alloc (.cells #[.int .i64 t, .bool false, .int .i64 kind, .int .i64 key, .int .i64 0, .bool false, .int .i64 0] 64))) hgrow (own_ne hr1.o1 hr1.blk (by decide))
  have fz := fb.frozen 0
  have fc := (fb.cell 0).trans hr1.c0
  have k1 : Kp B [83, 64, 88] w w3 := ((k1'.alloc (by omega) _).drew).own ((hr1.o1.alloc _).drew) (Nat.le_refl _) (by simp; omega) (by decide) hgrow
  have hr2 := ((hr1.alloc (.cells #[.int .i64 t, .bool false, .int .i64 kind, .int .i64 key, .int .i64 0, .bool false, .int .i64 0] 64)).drew).putEvs (by decide) (by decide) (by decide) (evs' := s.evs ++ [evB t kind key]) (n' := s.evs.length + 1) (by simp) (by simpa using hown1) hgrow
  have k2 := k1.setB fb hbase (by decide) 0 (.slice (some ⟨g2, 0, none⟩) (s.evs.length + 1) cap2)
  clear f0 f2 hown1 hgrow hat hr1 hq1' k1' k1 fb
  go_wp2_with fail
  refine NoPanic.normal ?_
  generalize (w3.setCell ⟨b, 0, none⟩ (.slice (some ⟨g2, 0, none⟩) (s.evs.length + 1) cap2)) = W3 at *
  clear fz fc hlt
  go_wp2_with fail
  -- the thread's number
  have f1 := Later.cell (B := W3.heap.size) hr2.f1 hr2.lt
  have hi0 : (0 : Int) ≤ (t : Int) := Int.natCast_nonneg _
  have hi1 : (t : Int) < 8 := by omega
  refine wp_region_lead (fun w' => ∃ q : Later W3.heap.size W3, w' = q.val) 10 [0, 1, 2, 3, 4, 5, 6, 7, 8, 9] [10] (by kernel_rfl) (by kernel_rfl) (Later.mk_ (Below.refl _ _).drew) ?_
  simp only [opsAt, List.map_cons, List.map_nil, List.getD_cons_zero, List.getD_cons_succ]
  repeat (go_big_quiet_step (fail))
  refine wpQuiet_nil ?_
  refine wpTail_late _ _ _ (by kernel_rfl) ?_
  simp only [opsAt, List.map_cons, List.map_nil, List.getD_cons_zero, List.getD_cons_succ]
  have fz := hr2.drew.blk.frozen (2 + t)
  have fc := hr2.drew.fn ht
  have hr3 := hr2.drew.putNow (by decide) (by decide) ht ((s.calls.length : Int) + 1)
  have k3 := k2.drew.setB hr2.drew.blk hbase (by decide) (2 + t) (.int .i64 ((s.calls.length : Int) + 1))
  clear f1 hr2 k2
  go_wp2_with fail
  refine NoPanic.normal ?_
  go_wp2_with fail
  go_ret
  exact ⟨rfl, ⟨HS.wf_doB hwf _ _ _, hbase, _, _, _, hr3⟩, k3⟩

/-- Begin, whatever the thread -/
theorem hist_begin (b : Nat) (s : HS) (B : Nat) (t kind key : Int) (w : World) (h : HAt w B b s) (hBw : B ≤ w.heap.size) (hsz : s.evs.length ≤ 1000) :
    Calls Tryd.prog 17 #[.pointer (some ⟨b, 0, none⟩), .int .i64 t, .agg #[.int .i64 kind, .int .i64 key]] w fun e w' =>
      e = .returned (.int .i64 (s.errB t)) ∧ HAt w' B b (s.begin_ t kind key) ∧ Kp B [83, 64, 88] w w' := by
  by_cases hk : 0 ≤ t ∧ t < 8
  · obtain ⟨t, rfl⟩ := Int.eq_ofNat_of_zero_le hk.1
    have ht : t < 8 := by omega
    have hk' : ¬ ((t : Int) < 0 ∨ 8 ≤ (t : Int)) := by omega
    by_cases hp : 0 < s.now t
    · have he : s.errB t = 1 := by simp only [HS.errB, if_neg hk', Int.toNat_natCast, if_pos hp]
      have hs : s.begin_ t kind key = s := by simp only [HS.begin_, he]; rfl
      rw [he, hs]
      have hkb : (decide (0 ≤ (t : Int)) && decide ((t : Int) < 8)) = true := by simp; omega
      have hpb : s.pend t = true := by simp only [HS.pend, hkb, Int.toNat_natCast]; simpa using hp
      have HK := Lib.hid hkb
      have HP := Lib.hid hpb
      have hb2 : Below w.heap.size w (w.alloc (.cells #[.int .i64 kind, .int .i64 key] 43)) := (Below.refl _ _).alloc (Nat.le_refl _) _
      clear hkb hpb he hs hk' hk
      go_enter Tryd.func17, Tryd.ntmps17
      go_wp2_with (first
        | (go_at_call 31; refine (hist_known _ _).mono ?_; rw [HK.out]; rintro e w1 ⟨rfl, rfl⟩)
        | (go_at_call 32; refine (hist_pending b s B _ _ (h.alloc _)).mono ?_; rw [HP.out]; rintro e w1 ⟨rfl, rfl⟩))
      go_ret
      exact ⟨rfl, h.step hb2, (Kp.refl _ _ _).step hBw hb2⟩
    · have he : s.errB t = 0 := by simp only [HS.errB, if_neg hk', Int.toNat_natCast, if_neg hp]
      have hs : s.begin_ t kind key = s.doB t kind key := by simp only [HS.begin_, he, Int.toNat_natCast]; rfl
      rw [he, hs]
      exact hist_begin_ok b s B t kind key w h hBw ht hp hsz
  · have hk' : t < 0 ∨ 8 ≤ t := by omega
    have he : s.errB t = 2 := by simp only [HS.errB, if_pos hk']
    have hs : s.begin_ t kind key = s := by simp only [HS.begin_, he]; rfl
    rw [he, hs]
    have hkb : (decide (0 ≤ t) && decide (t < 8)) = false := by simp; omega
    have HK := Lib.hid hkb
    have hb2 : Below w.heap.size w (w.alloc (.cells #[.int .i64 kind, .int .i64 key] 43)) := (Below.refl _ _).alloc (Nat.le_refl _) _
    clear hkb he hs hk' hk
    go_enter Tryd.func17, Tryd.ntmps17
    go_wp2_with (go_at_call 31; refine (hist_known _ _).mono ?_; rw [HK.out]; rintro e w1 ⟨rfl, rfl⟩)
    go_ret
    exact ⟨rfl, h.step hb2, (Kp.refl _ _ _).step hBw hb2⟩

end Go.Proofs.YtboommppikfgnaaDoor
