/- Contracts of lin's may, step, whole.
   Conditions: none. -/
import Derived.Test.YtboommppikfgnaaDoorLinFun
import Derived.BigQuiet
import Derived.Laws.Bits64b
namespace Go.Proofs.YtboommppikfgnaaDoor
open Go Go.RowKit

theorem bit_at (P k : Nat) (hP : P < 18446744073709551616) (t : Bool) (ht : P.testBit k = t) : bits .and .u64 ((P : Int) / 2 ^ k) 1 = if t then 1 else 0 := by
  have e1 : ((P : Int) / 2 ^ k) = ((P / 2 ^ k : Nat) : Int) := by simp
  have h1 : P / 2 ^ k < 18446744073709551616 := Nat.lt_of_le_of_lt (Nat.div_le_self _ _) hP
  rw [e1, show (1 : Int) = ((1 : Nat) : Int) from rfl, bits_and_u64_nat _ _ h1 (by omega), Nat.and_one_is_mod]
  rw [← ht, Nat.testBit_eq_decide_div_mod_eq]
  by_cases h : P / 2 ^ k % 2 = 1
  · simp [h]
  · have : P / 2 ^ k % 2 = 0 := by omega
    simp [this]
theorem take_one {A : Type} (l : List A) (k : Nat) (x : A) (h : l[k]? = some x) : l.take (k + 1) = l.take k ++ [x] := by
  rw [List.take_add_one, h]; rfl
theorem hcaSz : (Tryd.prog.info? 88).map (·.size) = some 9 := by kernel_rfl

set_option maxRecDepth 100000 in
set_option maxHeartbeats 1600000 in
theorem book_may (bb : Nat) (sh : Int) (Vc Vm : Value) (c : HC) (w : World) (h : Blk w bb 76 #[.int .i64 sh, Vc, Vm]) :
    Calls Tryd.prog 34 #[.pointer (some ⟨bb, 0, none⟩), .agg #[.int .i64 c.began, .int .i64 c.ended, .int .i64 c.id, .int .i64 c.th, .int .i64 c.kind, .int .i64 c.key, .int .i64 c.code, .bool c.ok, .int .i64 c.val]] w fun e w' => e = .returned (.bool (c.mayL sh)) ∧ Below w.heap.size w w' := by
  have hx := Blk.new w 88 #[.int .i64 c.began, .int .i64 c.ended, .int .i64 c.id, .int .i64 c.th, .int .i64 c.kind, .int .i64 c.key, .int .i64 c.code, .bool c.ok, .int .i64 c.val]
  have hb : Below w.heap.size w (w.alloc (.cells #[.int .i64 c.began, .int .i64 c.ended, .int .i64 c.id, .int .i64 c.th, .int .i64 c.kind, .int .i64 c.key, .int .i64 c.code, .bool c.ok, .int .i64 c.val] 88)) := (Below.refl _ _).alloc (Nat.le_refl _) _
  have hbk := h.alloc (.cells #[.int .i64 c.began, .int .i64 c.ended, .int .i64 c.id, .int .i64 c.th, .int .i64 c.kind, .int .i64 c.key, .int .i64 c.code, .bool c.ok, .int .i64 c.val] 88)
  have hm : c.mayL sh = ((decide (c.ended < 0) || (c.code == 0)) && may sh ⟨c.kind, c.key⟩) := rfl
  have hp := fun W => span_pending c.began c.ended W
  have ht := fun W => task_Right sh c.kind c.key W
  obtain ⟨m, hmm⟩ : ∃ m, may sh ⟨c.kind, c.key⟩ = m := ⟨_, rfl⟩
  rw [hmm] at hm ht
  have arms : ∃ p : Bool, decide (c.ended < 0) = p := ⟨_, rfl⟩
  obtain ⟨p, hd⟩ := arms
  rw [hd] at hm hp
  obtain ⟨z, hz⟩ : ∃ z : Bool, (c.code == 0) = z := ⟨_, rfl⟩
  have HM := Lib.hid hm
  have HP := Lib.hid hp
  have HT := Lib.hid ht
  clear hm hp ht hd hmm
  cases p <;> cases z
  all_goals
    go_enter Tryd.func34, Tryd.ntmps34
    go_upto_region 1 with (fail)
    generalize (w.alloc (.cells #[.int .i64 c.began, .int .i64 c.ended, .int .i64 c.id, .int .i64 c.th, .int .i64 c.kind, .int .i64 c.key, .int .i64 c.code, .bool c.ok, .int .i64 c.val] 88)) = W at *
    have q1 := Later.cells (B := W.heap.size) hx hx.lt
    have q2 := Later.cells (B := W.heap.size) hbk hbk.lt
    have q1f := q1
    refine wp_region_later W.heap.size (by kernel_rfl) (by kernel_rfl) ?_
    repeat (go_big_quiet_step ((first | (go_at_call 51; exact Later.call (Nat.le_refl _) (HP.out _)) | (go_at_call 52; exact Later.call (Nat.le_refl _) (HT.out _)))))
    refine wpQuiet_nil ?_
    intro w6 hq6
    obtain ⟨q6, hq6⟩ := hq6
    have hb6 : Below W.heap.size W w6 := by rw [hq6]; exact q6.below
    clear hq6 q6 q1 q2 q1f
    go_wp2_with fail
    go_ret
    exact ⟨by rw [HM.out, hz]; rfl, hb.trans (hb6.mono hb.size)⟩

set_option maxRecDepth 100000 in
set_option maxHeartbeats 1600000 in
theorem lin_step {Z : Nat → Prop} {b : Nat} {sh : Int} {items : List Int} (c : HC) (w : World) (h : SAt w Z b sh items) (hl : items.length ≤ 1000) (hrs : sh = 1 ∨ sh = 2 → rises items) :
    Calls Tryd.prog 35 #[.pointer (some ⟨b, 0, none⟩), .agg #[.int .i64 c.began, .int .i64 c.ended, .int .i64 c.id, .int .i64 c.th, .int .i64 c.kind, .int .i64 c.key, .int .i64 c.code, .bool c.ok, .int .i64 c.val]] w fun e w' => e = .returned (.bool (stepL sh items c)) ∧ SAt w' Z b sh (spStep sh items c.op) ∧ Kz Z w w' := by
  have hx := Blk.new w 88 #[.int .i64 c.began, .int .i64 c.ended, .int .i64 c.id, .int .i64 c.th, .int .i64 c.kind, .int .i64 c.key, .int .i64 c.code, .bool c.ok, .int .i64 c.val]
  have hb : Below w.heap.size w (w.alloc (.cells #[.int .i64 c.began, .int .i64 c.ended, .int .i64 c.id, .int .i64 c.th, .int .i64 c.kind, .int .i64 c.key, .int .i64 c.code, .bool c.ok, .int .i64 c.val] 88)) := (Below.refl _ _).alloc (Nat.le_refl _) _
  have hs1 := h.step hb
  have hp := fun W => span_pending c.began c.ended W
  go_enter Tryd.func35, Tryd.ntmps35
  go_upto_region 1 with (fail)
  generalize (w.alloc (.cells #[.int .i64 c.began, .int .i64 c.ended, .int .i64 c.id, .int .i64 c.th, .int .i64 c.kind, .int .i64 c.key, .int .i64 c.code, .bool c.ok, .int .i64 c.val] 88)) = W at *
  have cx := hx.cells
  go_wp2_with fail
  refine (spec_Do c.op hs1 hl hrs).mono ?_
  rintro e w2 ⟨rfl, hs2, hk2⟩
  have hx2 : Blk w2 w.heap.size 88 #[.int .i64 c.began, .int .i64 c.ended, .int .i64 c.id, .int .i64 c.th, .int .i64 c.kind, .int .i64 c.key, .int .i64 c.code, .bool c.ok, .int .i64 c.val] := hx.kz hk2 (.inr ⟨Nat.le_refl _, by have := hx.lt; exact this⟩)
  have hkz : Kz Z w w2 := (Kz.of_below hb Z).trans (hk2.less (fun k hk => .inl hk))
  have hs2' := hs2.less (Z' := Z) (fun k hk => .inl hk)
  have hst : stepL sh items c = (may sh c.op && c.told (spTell items c.op)) := rfl
  have htd : ∀ r : Rsl, c.told r = (decide (c.ended < 0) || ((r.code == c.code) && (r.ok == c.ok) && (r.val == c.val))) := fun _ => rfl
  have hr0 : spRes sh items c.op = if may sh c.op then spTell items c.op else .none_ := rfl
  have he0 : spErr sh c.op = if may sh c.op then 0 else 1 := rfl
  obtain ⟨mm, hm⟩ : ∃ mm, may sh c.op = mm := ⟨_, rfl⟩
  rw [hm] at hst hr0 he0
  rw [htd] at hst
  obtain ⟨p, hd⟩ : ∃ p : Bool, decide (c.ended < 0) = p := ⟨_, rfl⟩
  rw [hd] at hst hp
  have cx2 := hx2.cells
  have hl2 := hx2.lt
  clear hm hd htd hs2 hk2 cx hs1 hx hb
  cases mm
  · simp only [Bool.false_eq_true, if_false] at hr0 he0
    rw [hr0, he0]
    have HST := Lib.hid hst
    have HP := Lib.hid hp
    clear hst hp hr0 he0
    go_wp2_with fail
    go_ret
    refine ⟨by rw [HST.out]; rfl, ?_, hkz.alloc _⟩
    exact hs2'.step' ((Below.refl _ _).alloc (Nat.le_refl _) _)
  · simp only [if_true] at hr0 he0
    rw [hr0, he0]
    generalize spTell items c.op = r at *
    have hrx := Blk.new w2 50 #[.int .i64 r.code, .bool r.ok, .int .i64 r.val]
    cases p
    · have HST := Lib.hid hst
      have HP := Lib.hid hp
      clear hst hp hr0 he0
      go_upto_region 2 with (fail)
      have hb3 : Below w2.heap.size w2 (w2.alloc (.cells #[.int .i64 r.code, .bool r.ok, .int .i64 r.val] 50)) := (Below.refl _ _).alloc (Nat.le_refl _) _
      have hx3 := hx2.step hb3
      generalize (w2.alloc (.cells #[.int .i64 r.code, .bool r.ok, .int .i64 r.val] 50)) = w3 at *
      clear cx2 hl2
      have cx3 := hx3.cells
      go_wp2_with fail
      refine (HP.out w3).mono ?_
      rintro e w4 ⟨rfl, hb4⟩
      have hx4 := hx3.step hb4
      have hr4 := hrx.step hb4
      have cx4 := hx4.cells
      have cr4 := hr4.cells
      have hl4 := hx4.lt
      have hlr4 := hr4.lt
      clear cx3
      have hfin : SAt w4 Z b sh (spStep sh items c.op) ∧ Kz Z w w4 := ⟨(hs2'.step' hb3).step' hb4, (hkz.step hb3).step hb4⟩
      clear hs2' hkz hb3 hb4 hx3 hx4 hrx hr4 hx2
      have HF := Lib.hid hfin
      clear hfin
      go_wp2_with fail
      all_goals
        go_ret
        refine ⟨?_, HF.out⟩
        rw [HST.out]
        show Ending.returned (.bool _) = Ending.returned (.bool _)
        congr 2
        simp [*]
    · have HST := Lib.hid hst
      have HP := Lib.hid hp
      clear hst hp hr0 he0
      go_upto_region 2 with (fail)
      have hb3 : Below w2.heap.size w2 (w2.alloc (.cells #[.int .i64 r.code, .bool r.ok, .int .i64 r.val] 50)) := (Below.refl _ _).alloc (Nat.le_refl _) _
      have hx3 := hx2.step hb3
      generalize (w2.alloc (.cells #[.int .i64 r.code, .bool r.ok, .int .i64 r.val] 50)) = w3 at *
      clear cx2 hl2
      have cx3 := hx3.cells
      go_wp2_with fail
      refine (HP.out w3).mono ?_
      rintro e w4 ⟨rfl, hb4⟩
      go_wp2_with fail
      go_ret
      exact ⟨by rw [HST.out]; rfl, (hs2'.step' hb3).step' hb4, (hkz.step hb3).step hb4⟩

set_option maxRecDepth 100000 in
set_option maxHeartbeats 1600000 in
theorem book_whole (bb : Nat) (sh : Int) (Vm : Value) (A : Option Addr) (n cc B P : Nat) (cs : List HC) (w : World) (h : Blk w bb 76 #[.int .i64 sh, .slice A n cc, Vm]) (hs : Sl w B 9 A n (cs.flatMap HC.cells)) (hB : B ≤ w.heap.size)
    (hn : cs.length = n) (hn' : n ≤ 64) (hid : Numbered cs) (hP : P < 18446744073709551616) :
    Calls Tryd.prog 45 #[.pointer (some ⟨bb, 0, none⟩), .int .u64 P] w fun e w' => e = .returned (.bool (wholeL cs P)) ∧ Below w.heap.size w w' := by
  have HN := Lib.hid hn
  clear hn
  have hc := h.cells
  go_enter Tryd.func45, Tryd.ntmps45
  go_wp2_with fail
  go_loopw [12] (fun i wr => ∃ k : Nat, k ≤ n ∧ i = .int .i64 k ∧ (cs.take k).all (fun c => !(c.must && !isIn P c)) = true ∧ Below w.heap.size w wr) (fun i _ => n - (intOf i).toNat)
  case atStart => exact ⟨0, by omega, rfl, rfl, Below.refl _ _⟩
  case round =>
    obtain ⟨k, hk, rfl, hall, hbr⟩ := hrel
    by_cases hlt : k < n
    · obtain ⟨c, hcc⟩ : ∃ c, cs[k]? = some c := ⟨_, List.getElem?_eq_getElem (by rw [HN.out]; exact hlt)⟩
      have hs1 := hs.step hB hbr
      have hidx := hs1.idx (P := Tryd.prog) (c := cc) Tryd.underlying73 hcaSz hlt
      obtain ⟨f0, f1, f2, f3, f4, f5, f6, f7, f8⟩ := hc_cells hs1 hlt hcc
      have HID := Lib.hid (hid k c hcc)
      have hbs := hbr.size
      go_upto_region 4 with (fail)
      have hb3 : Below w.heap.size w (wr.alloc (.cells #[.int .i64 c.began, .int .i64 c.ended, .int .i64 c.id, .int .i64 c.th, .int .i64 c.kind, .int .i64 c.key, .int .i64 c.code, .bool c.ok, .int .i64 c.val] 88)) := hbr.alloc hbs _
      have hx := Blk.new wr 88 #[.int .i64 c.began, .int .i64 c.ended, .int .i64 c.id, .int .i64 c.th, .int .i64 c.kind, .int .i64 c.key, .int .i64 c.code, .bool c.ok, .int .i64 c.val]
      clear hs1 hidx f0 f1 f2 f3 f4 f5 f6 f7 f8
      generalize (wr.alloc (.cells #[.int .i64 c.began, .int .i64 c.ended, .int .i64 c.id, .int .i64 c.th, .int .i64 c.kind, .int .i64 c.key, .int .i64 c.code, .bool c.ok, .int .i64 c.val] 88)) = w3 at *
      have hc3 := hx.cells
      obtain ⟨mu, hmu⟩ : ∃ mu, c.must = mu := ⟨_, rfl⟩
      have hlm := lin_must c w3
      rw [hmu] at hlm
      have HMU := Lib.hid hmu
      clear hmu
      go_wp2_with fail
      refine hlm.mono ?_
      rintro e w4 ⟨rfl, hb4⟩
      have hx4 := hx.step hb4
      have hc4 := hx4.cells
      have HL := Lib.hid hlm
      clear hlm hc3
      have hall' : ((cs.take (k + 1)).all fun c => !(c.must && !isIn P c)) = ((cs.take k).all (fun c => !(c.must && !isIn P c)) && !(c.must && !isIn P c)) := by
        rw [take_one cs k c hcc, List.all_append]; simp
      have hin : isIn P c = P.testBit k := by unfold isIn; rw [HID.out, Int.toNat_natCast]
      have hend : wholeL cs P = true → (c.must && !isIn P c) = false := fun h => by
        have := List.all_eq_true.1 h c (List.mem_of_getElem? hcc)
        simpa only [Bool.not_eq_true'] using this
      obtain ⟨t, ht⟩ : ∃ t, P.testBit k = t := ⟨_, rfl⟩
      have hbit := bit_at P k hP t ht
      rw [hall, hin, ht, HMU.out] at hall'
      rw [hin, ht, HMU.out] at hend
      have HALL := Lib.hid hall'
      have HEND := Lib.hid hend
      clear hall' hend hall hin ht hcc
      cases mu
      · clear hbit
        go_wp2_with fail
        exact ⟨⟨k + 1, by omega, by go_num, HALL.out, hb3.trans (hb4.mono hb3.size)⟩, by simp [intOf]; omega⟩
      · have hidk := HID.out
        cases t
        · simp only [Bool.false_eq_true, if_false] at hbit
          go_wp2_with fail
          go_ret
          refine ⟨?_, hb3.trans (hb4.mono hb3.size)⟩
          have : wholeL cs P = false := by
            cases hw : wholeL cs P
            · rfl
            · have := HEND.out hw; simp at this
          rw [this]; rfl
        · simp only [if_true] at hbit
          go_wp2_with fail
          exact ⟨⟨k + 1, by omega, by go_num, HALL.out, hb3.trans (hb4.mono hb3.size)⟩, by simp [intOf]; omega⟩
    · obtain rfl : k = n := by omega
      rw [List.take_of_length_le (by rw [HN.out]; omega)] at hall
      have hw : wholeL cs P = true := hall
      have HW := Lib.hid hw
      clear hw hall
      go_wp2_with fail
      go_ret
      exact ⟨by rw [HW.out]; rfl, hbr⟩
end Go.Proofs.YtboommppikfgnaaDoor
