/- Contract of lin's next.
   Conditions: at most 64 calls, each one's number its place. -/
import Derived.Test.YtboommppikfgnaaDoorLinFun2
namespace Go.Proofs.YtboommppikfgnaaDoor
open Go Go.RowKit

set_option maxRecDepth 100000 in
set_option maxHeartbeats 3200000 in
theorem book_next (bb : Nat) (sh : Int) (Vm : Value) (A : Option Addr) (n cc B P i : Nat) (cs : List HC) (c : HC) (w : World) (h : Blk w bb 76 #[.int .i64 sh, .slice A n cc, Vm]) (hs : Sl w B 9 A n (cs.flatMap HC.cells)) (hB : B ≤ w.heap.size)
    (hn : cs.length = n) (hn' : n ≤ 64) (hid : Numbered cs) (hP : P < 18446744073709551616) (hc : cs[i]? = some c) :
    Calls Tryd.prog 48 #[.pointer (some ⟨bb, 0, none⟩), .agg #[.int .i64 c.began, .int .i64 c.ended, .int .i64 c.id, .int .i64 c.th, .int .i64 c.kind, .int .i64 c.key, .int .i64 c.code, .bool c.ok, .int .i64 c.val], .int .u64 P] w fun e w' => e = .returned (.bool (nextL sh cs P c)) ∧ Below w.heap.size w w' := by
  have hx := Blk.new w 88 #[.int .i64 c.began, .int .i64 c.ended, .int .i64 c.id, .int .i64 c.th, .int .i64 c.kind, .int .i64 c.key, .int .i64 c.code, .bool c.ok, .int .i64 c.val]
  have hb : Below w.heap.size w (w.alloc (.cells #[.int .i64 c.began, .int .i64 c.ended, .int .i64 c.id, .int .i64 c.th, .int .i64 c.kind, .int .i64 c.key, .int .i64 c.code, .bool c.ok, .int .i64 c.val] 88)) := (Below.refl _ _).alloc (Nat.le_refl _) _
  have hbk := h.alloc (.cells #[.int .i64 c.began, .int .i64 c.ended, .int .i64 c.id, .int .i64 c.th, .int .i64 c.kind, .int .i64 c.key, .int .i64 c.code, .bool c.ok, .int .i64 c.val] 88)
  have hs0 := (hs.step hB hb).more (Nat.le_trans hB hb.size)
  have hil : i < n := by rw [← hn]; exact (List.getElem?_eq_some_iff.1 hc).1
  have HN := Lib.hid hn
  have HIDC := Lib.hid (hid i c hc)
  have hbits : ∀ (k : Nat) (d : HC), cs[k]? = some d → isIn P d = P.testBit k := fun k d hd => by unfold isIn; rw [hid k d hd, Int.toNat_natCast]
  have hnx : nextL sh cs P c = (!isIn P c && c.mayL sh && cs.all (fun d => !(d.must && !isIn P d && d.bef c))) := rfl
  rw [hbits i c hc] at hnx
  obtain ⟨t, ht⟩ : ∃ t, P.testBit i = t := ⟨_, rfl⟩
  have hbit := bit_at P i hP t ht
  rw [ht] at hnx
  obtain ⟨ma, hma⟩ : ∃ ma, c.mayL sh = ma := ⟨_, rfl⟩
  have hmay := fun W (hW : Blk W bb 76 #[.int .i64 sh, .slice A n cc, Vm]) => book_may bb sh (.slice A n cc) Vm c W hW
  rw [hma] at hnx hmay
  have HMAY := Lib.hid hmay
  have HNX := Lib.hid hnx
  have HC0 := Lib.hid hc
  clear hn hnx hmay ht hma hc h hs
  go_enter Tryd.func48, Tryd.ntmps48
  go_upto_region 1 with (fail)
  generalize (w.alloc (.cells #[.int .i64 c.began, .int .i64 c.ended, .int .i64 c.id, .int .i64 c.th, .int .i64 c.kind, .int .i64 c.key, .int .i64 c.code, .bool c.ok, .int .i64 c.val] 88)) = w1 at *
  have cx := hx.cells
  have hidc := HIDC.out
  cases t
  · simp only [Bool.false_eq_true, if_false] at hbit
    go_wp2_with fail
    rw [← hidc]
    refine (HMAY.out w1 hbk).mono ?_
    rintro e w2 ⟨rfl, hb2⟩
    have hb02 := hb.trans (hb2.mono hb.size)
    have hx2 := hx.step hb2
    have hbk2 := hbk.step hb2
    have hs2 := (hs0.step (Nat.le_refl _) hb2).more hb2.size
    clear cx hidc hbit
    cases ma
    · go_wp2_with fail
      go_ret
      exact ⟨by rw [HNX.out]; rfl, hb02⟩
    · have cb2 := hbk2.cells
      go_wp2_with fail
      go_loopw [26] (fun j wr => ∃ k : Nat, k ≤ n ∧ j = .int .i64 k ∧ (cs.take k).all (fun d => !(d.must && !isIn P d && d.bef c)) = true ∧ Below w2.heap.size w2 wr) (fun j _ => n - (intOf j).toNat)
      case atStart => exact ⟨0, by omega, rfl, rfl, Below.refl _ _⟩
      case round =>
        obtain ⟨k, hk, rfl, hall, hbr⟩ := hrel
        have hbs := hbr.size
        have hb0r := hb02.trans (hbr.mono hb02.size)
        by_cases hlt : k < n
        · obtain ⟨d, hd⟩ : ∃ d, cs[k]? = some d := ⟨_, List.getElem?_eq_getElem (by rw [HN.out]; exact hlt)⟩
          have hs3 := hs2.step (Nat.le_refl _) hbr
          have hx3 := hx2.step hbr
          have hidx := hs3.idx (P := Tryd.prog) (c := cc) Tryd.underlying73 hcaSz hlt
          obtain ⟨f0, f1, f2, f3, f4, f5, f6, f7, f8⟩ := hc_cells hs3 hlt hd
          have HID := Lib.hid (hid k d hd)
          have hall' : ((cs.take (k + 1)).all fun d => !(d.must && !isIn P d && d.bef c)) = ((cs.take k).all (fun d => !(d.must && !isIn P d && d.bef c)) && !(d.must && !isIn P d && d.bef c)) := by
            rw [take_one cs k d hd, List.all_append]; simp
          have hend : cs.all (fun d => !(d.must && !isIn P d && d.bef c)) = true → (d.must && !isIn P d && d.bef c) = false := fun h => by
            have := List.all_eq_true.1 h d (List.mem_of_getElem? hd)
            simpa only [Bool.not_eq_true'] using this
          have hin := hbits k d hd
          obtain ⟨t, ht⟩ : ∃ t, P.testBit k = t := ⟨_, rfl⟩
          obtain ⟨mu, hmu⟩ : ∃ mu, d.must = mu := ⟨_, rfl⟩
          obtain ⟨bf, hbf⟩ : ∃ bf, d.bef c = bf := ⟨_, rfl⟩
          have hbit := bit_at P k hP t ht
          have hlm := fun W => lin_must d W
          have hsb := fun W => span_before d.began d.ended c.began c.ended W
          have hbf' : spanB d.ended c.began = bf := hbf
          rw [hbf'] at hsb
          rw [hmu] at hlm
          rw [hall, hin, ht, hmu, hbf] at hall'
          rw [hin, ht, hmu, hbf] at hend
          have HALL := Lib.hid hall'
          have HEND := Lib.hid hend
          have HLM := Lib.hid hlm
          have HSB := Lib.hid hsb
          clear hall' hend hall hin ht hd hmu hbf hbf' hlm hsb
          go_upto_region 6 with (fail)
          have hb3 : Below wr.heap.size wr (wr.alloc (.cells #[.int .i64 d.began, .int .i64 d.ended, .int .i64 d.id, .int .i64 d.th, .int .i64 d.kind, .int .i64 d.key, .int .i64 d.code, .bool d.ok, .int .i64 d.val] 88)) := (Below.refl _ _).alloc (Nat.le_refl _) _
          have hy := Blk.new wr 88 #[.int .i64 d.began, .int .i64 d.ended, .int .i64 d.id, .int .i64 d.th, .int .i64 d.kind, .int .i64 d.key, .int .i64 d.code, .bool d.ok, .int .i64 d.val]
          have hx4 := hx3.alloc (.cells #[.int .i64 d.began, .int .i64 d.ended, .int .i64 d.id, .int .i64 d.th, .int .i64 d.kind, .int .i64 d.key, .int .i64 d.code, .bool d.ok, .int .i64 d.val] 88)
          clear hs3 hidx f0 f1 f2 f3 f4 f5 f6 f7 f8
          generalize (wr.alloc (.cells #[.int .i64 d.began, .int .i64 d.ended, .int .i64 d.id, .int .i64 d.th, .int .i64 d.kind, .int .i64 d.key, .int .i64 d.code, .bool d.ok, .int .i64 d.val] 88)) = w3 at *
          have cy := hy.cells
          go_wp2_with fail
          refine (HLM.out w3).mono ?_
          rintro e w4 ⟨rfl, hb4⟩
          have hy4 := hy.step hb4
          have hx5 := hx4.step hb4
          have hb34 := hb3.trans (hb4.mono hb3.size)
          clear cy
          have cy4 := hy4.cells
          have cx5 := hx5.cells
          have hcont : (Below w2.heap.size w2 w4) := hbr.trans (hb34.mono hbs)
          cases mu
          · clear hbit
            go_wp2_with fail
            exact ⟨⟨k + 1, by omega, by go_num, HALL.out, hcont⟩, by simp [intOf]; omega⟩
          · have hidd := HID.out
            cases t
            · simp only [Bool.false_eq_true, if_false] at hbit
              go_wp2_with fail
              refine (HSB.out w4).mono ?_
              rintro e w5 ⟨rfl, hb5⟩
              cases bf
              · go_wp2_with fail
                exact ⟨⟨k + 1, by omega, by go_num, HALL.out, hcont.trans (hb5.mono hcont.size)⟩, by simp [intOf]; omega⟩
              · go_wp2_with fail
                go_ret
                refine ⟨?_, hb02.trans ((hcont.trans (hb5.mono hcont.size)).mono hb02.size)⟩
                have : cs.all (fun d => !(d.must && !isIn P d && d.bef c)) = false := by
                  cases hw : cs.all (fun d => !(d.must && !isIn P d && d.bef c))
                  · rfl
                  · have := HEND.out hw; simp at this
                rw [HNX.out, this]; rfl
            · simp only [if_true] at hbit
              go_wp2_with fail
              exact ⟨⟨k + 1, by omega, by go_num, HALL.out, hcont⟩, by simp [intOf]; omega⟩
        · obtain rfl : k = n := by omega
          rw [List.take_of_length_le (by rw [HN.out]; omega)] at hall
          have HW := Lib.hid hall
          clear hall
          go_wp2_with fail
          go_ret
          exact ⟨by rw [HNX.out, HW.out]; rfl, hb0r⟩
  · simp only [if_true] at hbit
    go_wp2_with fail
    go_ret
    exact ⟨by rw [HNX.out]; rfl, hb⟩
end Go.Proofs.YtboommppikfgnaaDoor
