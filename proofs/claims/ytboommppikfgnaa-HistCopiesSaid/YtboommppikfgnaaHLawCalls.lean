/- Contract of the law's calls.
   Conditions: at most 1000 events. -/
import Derived.Test.YtboommppikfgnaaHSame
import Derived.Test.YtboommppikfgnaaHCallsW
namespace Go.Proofs.Ytboommppikfgnaa
open Go Go.RowKit

theorem rcSz : (Try.prog.info? 95).map (·.size) = some 8 := by kernel_rfl
theorem hcSz : (Try.prog.info? 44).map (·.size) = some 9 := by kernel_rfl

set_option maxRecDepth 100000 in
set_option maxHeartbeats 6400000 in
theorem law_calls (A : Option Addr) (b : Nat) (s : HS) (BH n c B : Nat) (w : World) (h : HAt w BH b s) (hr : s.Ref) (hs : Sl w B 7 A n (s.evs.flatMap Ev.cells)) (hB : B ≤ w.heap.size) (hel : s.evs.length = n) (hn : n ≤ 1000) :
    Calls Try.prog 26 #[.pointer (some ⟨b, 0, none⟩), .slice A n c] w fun r w' => r = .returned (.bool true) ∧ Below w.heap.size w w' := by
  have hn' : s.evs.length ≤ 1000 := by omega
  have hm1000 : s.calls.length ≤ 1000 := by have := hr.good.wf.le; omega
  go_enter Try.func26, Try.ntmps26
  go_wp2_with (go_at_call 47; refine (ref_calls A n c B s.evs w hs hB hel hn).mono ?_; rintro e w1 ⟨v, rfl, ho, hb1⟩; rw [← hr.rc, List.length_map] at ho; obtain ⟨A1, c1, rfl, -, -, -⟩ := own_form ho)
  have h1 := h.step hb1
  have hv1 := Sl.of_own ho
  have hB1 : w.heap.size ≤ w1.heap.size := hb1.size
  clear h hs ho hel
  refine (hist_calls b s BH w1 h1 hn').mono ?_
  rintro e w2 ⟨v, rfl, ho, hb2⟩
  obtain ⟨A2, c2, rfl, -, -, -⟩ := own_form ho
  have hv2 := hv1.below hb2
  have hg2 := Sl.of_own ho
  have hB2 : w1.heap.size ≤ w2.heap.size := hb2.size
  have hb02 := hb1.trans (hb2.mono hB1)
  clear ho hv1 h1 hb1 hb2
  generalize hm : s.calls.length = m at *
  have HM := Lib.hid hm
  clear hm
  go_wp2_with fail
  go_loopw [23] (fun i wr => ∃ k : Nat, k ≤ m ∧ i = .int .i64 k ∧ Below w2.heap.size w2 wr) (fun i _ => m - (intOf i).toNat)
  case atStart => exact ⟨0, by omega, rfl, Below.refl _ _⟩
  case round =>
    obtain ⟨k, hk, rfl, hb⟩ := hrel
    by_cases hlt : k < m
    · have dk : decide ((k : Int) < (m : Int)) = true := by simp; omega
      obtain ⟨c0, hc0⟩ : ∃ e, s.calls[k]? = some e := ⟨_, List.getElem?_eq_getElem (by rw [HM.out]; exact hlt)⟩
      have hr0 : (s.calls.map HC.rc)[k]? = some c0.rc := by rw [List.getElem?_map, hc0]; rfl
      have hid := (hr.good.rng k c0 hc0).2.2.2.2.2
      have hv3 := hv2.below (hb.mono hB2)
      have hg3 := hg2.below hb
      have hidv := hv3.idx (P := Try.prog) (c := c1) Try.underlying92 rcSz hlt
      have hidg := hg3.idx (P := Try.prog) (c := c2) Try.underlying41 hcSz hlt
      obtain ⟨f0, f1, f2, f3, f4, f5, f6, f7⟩ := rc_cells hv3 hlt hr0
      have hbs := hb.size
      simp only [HC.rc] at f0 f1 f2 f3 f4 f5 f6 f7
      go_upto_region 8 with (fail)
      clear f0 f1 f2 f3 f4 f5 f6 f7 hidv
      have hx := Blk.new wr 95 #[.int .i64 c0.th, .int .i64 c0.began, .int .i64 c0.ended, .int .i64 c0.kind, .int .i64 c0.key, .int .i64 c0.code, .bool c0.ok, .int .i64 c0.val]
      have hb7 := (Below.refl wr.heap.size wr).alloc (Nat.le_refl _) (.cells #[.int .i64 c0.th, .int .i64 c0.began, .int .i64 c0.ended, .int .i64 c0.kind, .int .i64 c0.key, .int .i64 c0.code, .bool c0.ok, .int .i64 c0.val] 95)
      generalize (wr.alloc (.cells #[.int .i64 c0.th, .int .i64 c0.began, .int .i64 c0.ended, .int .i64 c0.kind, .int .i64 c0.key, .int .i64 c0.code, .bool c0.ok, .int .i64 c0.val] 95)) = W7 at *
      generalize wr.heap.size = X at *
      have hg7 := hg3.below (hb7.mono hbs)
      obtain ⟨g0, g1, g2, g3, g4, g5, g6, g7, g8⟩ := hc_cells hg7 hlt hc0
      rw [hid] at g2
      have hXl := hx.lt
      go_upto_region 9 with (fail)
      clear g0 g1 g2 g3 g4 g5 g6 g7 g8 hidg
      have hy := Blk.new W7 44 #[.int .i64 c0.began, .int .i64 c0.ended, .int .i64 k, .int .i64 c0.th, .int .i64 c0.kind, .int .i64 c0.key, .int .i64 c0.code, .bool c0.ok, .int .i64 c0.val]
      have hx8 := hx.alloc (.cells #[.int .i64 c0.began, .int .i64 c0.ended, .int .i64 k, .int .i64 c0.th, .int .i64 c0.kind, .int .i64 c0.key, .int .i64 c0.code, .bool c0.ok, .int .i64 c0.val] 44)
      have hb8 := hb7.alloc (by omega) (.cells #[.int .i64 c0.began, .int .i64 c0.ended, .int .i64 k, .int .i64 c0.th, .int .i64 c0.kind, .int .i64 c0.key, .int .i64 c0.code, .bool c0.ok, .int .i64 c0.val] 44)
      generalize (W7.alloc (.cells #[.int .i64 c0.began, .int .i64 c0.ended, .int .i64 k, .int .i64 c0.th, .int .i64 c0.kind, .int .i64 c0.key, .int .i64 c0.code, .bool c0.ok, .int .i64 c0.val] 44)) = W8 at *
      generalize W7.heap.size = Y at *
      have qx := Later.cells hx8 hx8.lt
      have qy := Later.cells hy hy.lt
      refine wp_region_later W8.heap.size (by kernel_rfl) (by kernel_rfl) ?_
      repeat (go_big_quiet_step ((go_at_call 15; exact Later.call (Nat.le_refl _) (span_pending _ _ _))))
      refine wpQuiet_nil ?_
      intro W9 hq
      obtain ⟨q, hq⟩ := hq
      have hb9' : Below W8.heap.size W8 W9 := by rw [hq]; exact q.below
      clear hq q qx qy
      have hx9 := hx8.step hb9'
      have hy9 := hy.step hb9'
      have hX8 := hx8.lt
      have hY8 := hy.lt
      have hb9 := hb8.trans (hb9'.mono (by omega))
      clear hx hx8 hy hb8 hb7 hb9' hg7 hv3 hg3
      have hv9 := hv2.below ((hb.mono hB2).trans (hb9.mono (by omega)))
      have hg9 := hg2.below (hb.trans (hb9.mono hbs))
      have hX9 := hx9.lt
      have hY9 := hy9.lt
      go_wp2_with fail
      go_loopw [84] (fun i wr' => ∃ j : Nat, j ≤ m ∧ i = .int .i64 j ∧ Below W9.heap.size W9 wr') (fun i _ => m - (intOf i).toNat)
      case atStart => exact ⟨0, by omega, rfl, Below.refl _ _⟩
      case round =>
        obtain ⟨j, hj, rfl, hbj⟩ := hrel
        by_cases hjt : j < m
        · have dj : decide ((j : Int) < (m : Int)) = true := by simp; omega
          obtain ⟨d0, hd0⟩ : ∃ e, s.calls[j]? = some e := ⟨_, List.getElem?_eq_getElem (by rw [HM.out]; exact hjt)⟩
          have hd1 : (s.calls.map HC.rc)[j]? = some d0.rc := by rw [List.getElem?_map, hd0]; rfl
          have hbjs := hbj.size
          have hbs9 := hb9.size
          have hvj := hv9.below (hbj.mono (by omega))
          have hgj := hg9.below (hbj.mono (by omega))
          have hidv := hvj.idx (P := Try.prog) (c := c1) Try.underlying92 rcSz hjt
          obtain ⟨f0, f1, f2, f3, f4, f5, f6, f7⟩ := rc_cells hvj hjt hd1
          simp only [HC.rc] at f0 f1 f2 f3 f4 f5 f6 f7
          go_upto_region 14 with (fail)
          clear f0 f1 f2 f3 f4 f5 f6 f7 hidv
          have hz := Blk.new wr 95 #[.int .i64 d0.th, .int .i64 d0.began, .int .i64 d0.ended, .int .i64 d0.kind, .int .i64 d0.key, .int .i64 d0.code, .bool d0.ok, .int .i64 d0.val]
          have hb14 := (Below.refl wr.heap.size wr).alloc (Nat.le_refl _) (.cells #[.int .i64 d0.th, .int .i64 d0.began, .int .i64 d0.ended, .int .i64 d0.kind, .int .i64 d0.key, .int .i64 d0.code, .bool d0.ok, .int .i64 d0.val] 95)
          generalize (wr.alloc (.cells #[.int .i64 d0.th, .int .i64 d0.began, .int .i64 d0.ended, .int .i64 d0.kind, .int .i64 d0.key, .int .i64 d0.code, .bool d0.ok, .int .i64 d0.val] 95)) = W14 at *
          have hzl := hz.lt
          have hxj := hx9.step (hbj.trans (hb14.mono hbjs))
          have hyj := hy9.step (hbj.trans (hb14.mono hbjs))
          generalize wr.heap.size = Z at *
          have hg14 := hgj.below (hb14.mono (by omega))
          obtain ⟨g0, g1, g2, g3, g4, g5, g6, g7, g8⟩ := hc_cells hg14 hjt hd0
          have hidg := hg14.idx (P := Try.prog) (c := c2) Try.underlying41 hcSz hjt
          have hix := fun q : Later W14.heap.size W14 => hidg q.val
          have hglt := hg14.blt (by omega)
          have qx := Later.cells hxj hxj.lt
          have qy := Later.cells hyj hyj.lt
          have qz := Later.cells hz hzl
          have q0 := Later.cell (B := W14.heap.size) g0 (by omega)
          have q1 := Later.cell (B := W14.heap.size) g1 (by omega)
          clear g0 g1 g2 g3 g4 g5 g6 g7 g8 hidg
          have hrb := fun W : World => ref_before c0.rc d0.rc W
          simp only [HC.rc] at hrb
          refine wp_region_later W14.heap.size (by kernel_rfl) (by kernel_rfl) ?_
          repeat (go_big_quiet_step ((first | (go_at_call 14; exact Later.call (Nat.le_refl _) (span_before _ _ _ _ _)) | (go_at_call 48; exact Later.call (Nat.le_refl _) (hrb _)))))
          refine wpQuiet_nil ?_
          intro W15 hq
          obtain ⟨q, hq⟩ := hq
          have hb15 : Below W14.heap.size W14 W15 := by rw [hq]; exact q.below
          clear hq q qx qy qz q0 q1 hix
          go_wp2_with fail
          have hb14s := hb14.size
          refine ⟨⟨j + 1, by omega, by go_num, hbj.trans ((hb14.mono hbjs).trans (hb15.mono (by omega)))⟩, ?_⟩
          simp [intOf]; omega
        · have dj : decide ((j : Int) < (m : Int)) = false := by simp; omega
          go_wp2_with fail
          refine ⟨⟨k + 1, by omega, by go_num, hb.trans ((hb9.mono hbs).trans (hbj.mono (by have := hb9.size; omega)))⟩, ?_⟩
          simp [intOf]; omega
    · have dk : decide ((k : Int) < (m : Int)) = false := by simp; omega
      go_wp2_with fail
      go_ret
      exact ⟨rfl, hb02.trans (hb.mono (by omega))⟩

end Go.Proofs.Ytboommppikfgnaa
