/- The law SpecAll returns true, whatever the shape and the operations.
   Conditions: none. -/
import Derived.Test.YtboommppikfgnaaLSPlays
namespace Go.Proofs.Ytboommppikfgnaa
open Go Go.RowKit

theorem resSz : (Try.prog.info? 36).map (·.size) = some 3 := by kernel_rfl

/-- all of the first operations are of the shape -/
def mayTo (sh : Int) (ops : List Opn) (k : Nat) : Bool := decide (1 ≤ sh ∧ sh ≤ 4) && (ops.take k).all (may sh)
theorem mayTo_zero (sh : Int) (ops : List Opn) : mayTo sh ops 0 = decide (1 ≤ sh ∧ sh ≤ 4) := by simp [mayTo]
theorem mayTo_succ (sh : Int) (ops : List Opn) (k : Nat) (o : Opn) (h : ops[k]? = some o) : mayTo sh ops (k + 1) = (mayTo sh ops k && may sh o) := by
  unfold mayTo
  rw [List.take_add_one, h]
  simp [Bool.and_assoc]
theorem allMay_iff (sh : Int) (ops : List Opn) : allMay sh ops ↔ ops.all (may sh) = true := by
  rw [List.all_eq_true]
  exact ⟨fun h o ho => decide_eq_true (h o ho), fun h o ho => of_decide_eq_true (h o ho)⟩

set_option maxRecDepth 100000 in
set_option maxHeartbeats 6400000 in
theorem law_sall (sh : Int) (A : Option Addr) (n c B0 : Nat) (ops : List Opn) (w : World) (hs : Sl w B0 2 A n (ops.flatMap Opn.cells)) (hel : ops.length = n) (hB0 : B0 ≤ w.heap.size) (hnc : n ≤ c) :
    Calls Try.prog 10 #[.int .i64 sh, .slice A n c] w fun e w' => e = .returned (.bool true) ∧ Below w.heap.size w w' := by
  by_cases hbig : 60 < n
  · go_enter Try.func10, Try.ntmps10
    go_wp2_with fail
    refine (sawake _).mono ?_
    rintro e w1 ⟨rfl, h1⟩
    go_wp2_with fail
    go_ret
    exact ⟨rfl, h1⟩
  have hn60 : n ≤ 60 := by omega
  have hgt : decide ((60 : Int) < (n : Int)) = false := by simp; omega
  have HL := Lib.hid hel
  have hnone := fun w => law_none sh (!mayTo sh ops 0) (by rw [mayTo_zero, Bool.eq_iff_iff]; simp <;> omega) w
  clear hbig hel
  go_enter Try.func10, Try.ntmps10
  go_wp2_with fail
  refine (sawake _).mono ?_
  rintro e w1 ⟨rfl, h1⟩
  go_wp2_with fail
  refine (hnone _).mono ?_
  rintro e w1' ⟨rfl, rfl⟩
  obtain ⟨m0, hm0⟩ : ∃ m0, m0 = mayTo sh ops 0 := ⟨_, rfl⟩
  rw [← hm0]
  have HM0 := Lib.hid hm0
  clear hm0 hnone
  go_wp2_with fail
  have hb0 : Below w1'.heap.size w1' w1' := Below.refl _ _
  go_loopw [26, 5] (fun i mv wr => ∃ (k : Nat) (m : Bool), k ≤ n ∧ i = .int .i64 k ∧ mv = .bool m ∧ Hid (m = mayTo sh ops k) ∧ Below w1'.heap.size w1' wr) (fun i _ _ => n - (intOf i).toNat)
  case atStart => exact ⟨0, m0, by omega, rfl, rfl, HM0, hb0⟩
  case round =>
    obtain ⟨k, m, hk, rfl, rfl, hm, hb⟩ := hrel
    by_cases hlt : k < n
    · have dk : decide ((k : Int) < (n : Int)) = true := by simp; omega
      obtain ⟨o, ho⟩ : ∃ o, ops[k]? = some o := ⟨_, List.getElem?_eq_getElem (by rw [HL.out]; exact hlt)⟩
      have hsw := hs.below ((h1.trans (hb.mono h1.size)).mono hB0)
      have hidx := hsw.idx (P := Try.prog) (c := c) Try.underlying58 opSz hlt
      obtain ⟨f0, f1⟩ := op_cells hsw hlt ho
      have hst := mayTo_succ sh ops k o ho
      rw [← hm.out] at hst
      have hmay := ref_May sh o
      generalize may sh o = b at *
      have HS := Lib.hid hst
      have HMAY := Lib.hid hmay
      clear hst ho hsw hm hmay
      go_upto_region 9 with (fail)
      clear f0 f1 hidx
      have hb7 : Below wr.heap.size wr (wr.alloc (.cells #[.int .i64 o.kind, .int .i64 o.key] 33)) := (Below.refl _ _).alloc (Nat.le_refl _) _
      have hx := Blk.new wr 33 #[.int .i64 o.kind, .int .i64 o.key]
      generalize (wr.alloc (.cells #[.int .i64 o.kind, .int .i64 o.key] 33)) = W at *
      have hb' := hb.trans (hb7.mono hb.size)
      have hws := hb7.size
      have hbs := hb.size
      have cx := hx.cells
      clear hb hb7 hx
      cases m with
      | false =>
        have HS' := Lib.hid (show false = mayTo sh ops (k + 1) by rw [HS.out]; rfl)
        clear HS
        go_wp2_with fail
        go_roundw
        case rel => exact ⟨k + 1, false, by omega, by go_num, rfl, HS', hb'⟩
        case measure => simp [intOf] <;> omega
      | true =>
        have HS' := Lib.hid (show b = mayTo sh ops (k + 1) by rw [HS.out]; rfl)
        clear HS
        go_wp2_with fail
        refine (HMAY.out _).mono ?_
        rintro e w8 ⟨rfl, hb8⟩
        have hb8' := hb'.trans (hb8.mono (by omega))
        go_wp2_with fail
        go_roundw
        case rel => exact ⟨k + 1, b, by omega, by go_num, rfl, HS', hb8'⟩
        case measure => simp [intOf] <;> omega
    · have dk : decide ((k : Int) < (n : Int)) = false := by simp; omega
      have hkn : k = n := by omega
      subst hkn
      have hmv := Lib.hid (show m = (decide (1 ≤ sh ∧ sh ≤ 4) && ops.all (may sh)) by rw [hm.out, mayTo, List.take_of_length_le (by rw [HL.out]; exact Nat.le_refl _)])
      have hb1 := h1.trans (hb.mono h1.size)
      have hs1 := hs.below (hb1.mono hB0)
      have hB1 : B0 ≤ wr.heap.size := by have := hb1.size; omega
      clear hm hs hb h1 hk
      by_cases hno : sh < 1 ∨ 4 < sh
      · have hf : m = false := by rw [hmv.out, decide_eq_false (by omega)]; rfl
        subst hf
        clear hmv
        go_wp2_with fail
        refine (spec_Play_none sh hno _ _).mono ?_
        rintro e w2 ⟨rfl, rfl⟩
        go_wp2_with fail
        go_ret
        exact ⟨rfl, hb1⟩
      · have hK1 : 1 ≤ sh ∧ sh ≤ 4 := by omega
        have hmv' : m = ops.all (may sh) := by rw [hmv.out, decide_eq_true hK1]; rfl
        have HMV := Lib.hid hmv'
        clear hmv hmv' hno
        go_wp2_with fail
        refine (spec_Play sh hK1 A k c B0 ops wr hs1 hB1 HL.out (by omega)).mono ?_
        rintro e w2 (⟨hall, v, g, rfl, s2, ho, hb2⟩ | ⟨hnot, rfl, hb2⟩)
        · have hmt : m = true := by rw [HMV.out]; exact (allMay_iff sh ops).1 hall
          subst hmt
          clear HMV
          have hb12 := hb1.trans (hb2.mono hb1.size)
          have hs12 := hs1.below (hb2.mono hB1)
          have hB2 : B0 ≤ w2.heap.size := by have := hb2.size; omega
          obtain ⟨A2, c2, rfl, -, -, -⟩ := own_form ho
          have hgot := Sl.of_own ho
          have hil : (itemsOf sh ops).length ≤ 1000 := by have := itemsOf_len sh ops; have := HL.out; omega
          have hbz : Below w2.heap.size w2 w2 := Below.refl _ _
          have HS2 := Lib.hid s2
          have HALL := Lib.hid hall
          clear ho hb2 hs1 hB1 s2 hall
          go_wp2_with fail
          go_loopw [72] (fun i wx => ∃ j : Nat, j ≤ k ∧ i = .int .i64 j ∧ Below w2.heap.size w2 wx) (fun i _ => k - (intOf i).toNat)
          case atStart => exact ⟨0, by omega, rfl, hbz⟩
          case round =>
            obtain ⟨j, hj, rfl, hbx⟩ := hrel
            have hbxs := hbx.size
            by_cases hjt : j < k
            · have dj : decide ((j : Int) < (k : Int)) = true := by simp; omega
              obtain ⟨o, ho⟩ : ∃ o, ops[j]? = some o := ⟨_, List.getElem?_eq_getElem (by rw [HL.out]; exact hjt)⟩
              have hsw := hs12.below (hbx.mono hB2)
              have hidx := hsw.idx (P := Try.prog) (c := c) Try.underlying58 opSz hjt
              obtain ⟨f0, f1⟩ := op_cells hsw hjt ho
              have htt := tells_at sh ops j o ho
              have hpre : allMay sh (ops.take j) := fun x hx => HALL.out x (List.mem_of_mem_take hx)
              have hom : mayP sh o.kind o.key := HALL.out o (List.mem_of_getElem? ho)
              have href := tell_ref sh (ops.take j) o hK1 hpre hom
              rw [href] at htt
              have hlj : (ops.take j).length = j := by rw [List.length_take, HL.out]; omega
              generalize hr : refRes sh (ops.take j) o = r at *
              have HR := Lib.hid hr
              have HTT := Lib.hid htt
              have HLJ := Lib.hid hlj
              clear ho htt hpre hom href hr hlj
              go_upto_region 19 with (fail)
              clear f0 f1 hidx
              have hb7 : Below wr.heap.size wr (wr.alloc (.cells #[.int .i64 o.kind, .int .i64 o.key] 33)) := (Below.refl _ _).alloc (Nat.le_refl _) _
              have hx := Blk.new wr 33 #[.int .i64 o.kind, .int .i64 o.key]
              generalize (wr.alloc (.cells #[.int .i64 o.kind, .int .i64 o.key] 33)) = W at *
              have hb' := hbx.trans (hb7.mono hbx.size)
              have hws := hb7.size
              have hgw := hgot.below hb'
              have hsw' := hs12.below (hb'.mono hB2)
              have hxl := hx.lt
              have qx := Later.cells hx hx.lt
              obtain ⟨r0, r1, r2⟩ := res_cells hgw hjt HTT.out
              have hgl := hgw.blt (by omega)
              have q0 := Later.cell (B := W.heap.size) r0 (by omega)
              have q1 := Later.cell (B := W.heap.size) r1 (by omega)
              have q2 := Later.cell (B := W.heap.size) r2 (by omega)
              have i2 := hgw.idx (P := Try.prog) (c := c2) Try.underlying76 resSz hjt
              have i2' := fun q : Later W.heap.size W => i2 q.val
              have hup := run_upto (P := Try.prog) Try.underlying58 opSz A k c j (j : Int) rfl (by omega)
              have hup' := fun q : Later W.heap.size W => hup q.val
              have hsk := hsw'.upto (k := j) (by omega)
              rw [flat_take Opn.cells 2 Opn.cells_len] at hsk
              have hres := fun (W' : World) (hb : Below W.heap.size W W') => ref_Res (w := W') (c := c) sh o (hsk.step (by omega) hb) (by have := hb.size; omega) HLJ.out (by omega) (by omega)
              rw [HR.out] at hres
              have HRES := Lib.hid hres
              clear hres hsk hsw' hgw hsw hx r0 r1 r2 hbx hb7
              refine wp_region_ph (fun w' => ∃ q : Later W.heap.size W, w' = q.val) 10 [] [0, 1, 2, 3, 4, 5, 6, 7, 8] [9, 10] (by kernel_rfl) (by kernel_rfl) (Later.mk_ (Below.refl _ _).drew) ?_
              refine wpPh_nil ?_
              simp only [opsAt, List.map_cons, List.map_nil, List.getD_cons_zero, List.getD_cons_succ]
              repeat (go_big_quiet_step (fail))
              refine wpQuiet_nil ?_
              refine wpTail_early rfl (fun K hK => ?_)
              go_simp
              refine (HRES.out _ ((Below.refl _ _).drew)).mono ?_
              rintro e W11 ⟨rfl, hb11⟩
              have hb11' : Below W.heap.size W W11 := (Below.refl _ _).drew.trans hb11
              refine hK _ _ (Later.mk_ hb11') ?_
              clear hK K
              refine wpTail_late _ _ _ (by kernel_rfl) ?_
              simp only [opsAt, List.map_cons, List.map_nil, List.getD_cons_zero, List.getD_cons_succ]
              have hbe := hb'.trans (hb11'.mono hb'.size)
              clear qx q0 q1 q2 i2 i2' hup hup' hb11 hb11' hb' HRES
              go_wp2_with fail
              refine NoPanic.normal ?_
              go_wp2_with fail
              go_roundw
              case rel => exact ⟨j + 1, by omega, by go_num, hbe⟩
              case measure => simp [intOf] <;> omega
            · have dj : decide ((j : Int) < (k : Int)) = false := by simp; omega
              have s3 := HS2.out.step' hbx
              have hb13 := hb12.trans (hbx.mono hb12.size)
              clear hbx
              go_wp2_with fail
              refine (bag_First s3).mono ?_
              rintro e w4 ⟨rfl, rfl⟩
              go_wp2_with fail
              refine (bag_Items s3 hil).mono ?_
              rintro e w5 ⟨v, rfl, hv, hb5⟩
              have hbf := hb13.trans (hb5.mono hb13.size)
              clear s3 HS2 hb5 hb13 hb12
              cases hit : itemsOf sh ops with
              | nil =>
                rw [hit] at hv
                obtain ⟨A5, c5, rfl, -, -, -⟩ := own_form hv
                clear hv
                simp only [firstI, someI, List.headD_nil, List.isEmpty_nil, Bool.not_true, List.length_nil]
                go_wp2_with fail
                go_ret
                exact ⟨rfl, hbf⟩
              | cons x l =>
                rw [hit] at hv
                obtain ⟨A5, c5, rfl, -, -, -⟩ := own_form hv
                have hsl := Sl.of_own hv
                have hx0 := RowI.at_ (k := 0) (x := x) hsl (by simp) rfl
                have hidx := hsl.idx (P := Try.prog) (c := c5) Try.underlying62 intSz (k := 0) (by simp)
                have hlp : 0 < (x :: l).length := by simp
                simp only [Nat.zero_mul, Nat.add_zero, Int.natCast_zero] at hx0 hidx
                simp only [firstI, someI, List.headD_cons, List.isEmpty_cons, Bool.not_false]
                clear hv hsl
                generalize (x :: l).length = L at *
                go_wp2_with fail
                go_ret
                exact ⟨rfl, hbf⟩
        · have hmf : m = false := by
            rw [HMV.out]
            cases hh : ops.all (may sh)
            · rfl
            · exact absurd ((allMay_iff sh ops).2 hh) hnot
          subst hmf
          clear hnot HMV
          go_wp2_with fail
          go_ret
          exact ⟨rfl, hb1.trans (hb2.mono hb1.size)⟩
end Go.Proofs.Ytboommppikfgnaa
