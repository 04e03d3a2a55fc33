/- The law HistAlone returns true, whatever the events.
   Conditions: none. -/
import Derived.Test.YtboommppikfgnaaHAwake
import Derived.Test.YtboommppikfgnaaHInv
import Derived.Deep.DeepCutAuto
namespace Go.Proofs.Ytboommppikfgnaa
open Go Go.RowKit

theorem evSize : (Try.prog.info? 38).map (·.size) = some 7 := by kernel_rfl
theorem hcSize : (Try.prog.info? 44).map (·.size) = some 9 := by kernel_rfl

set_option maxRecDepth 100000 in
set_option maxHeartbeats 1600000 in
theorem law_alone (A : Option Addr) (n c B0 : Nat) (evs : List Ev) (w : World) (hs : Sl w B0 7 A n (evs.flatMap Ev.cells)) (hel : evs.length = n) (hB0 : B0 ≤ w.heap.size) :
    Calls Try.prog 4 #[.slice A n c] w fun e w' => e = .returned (.bool true) ∧ Below w.heap.size w w' := by
  by_cases hbig : 60 < n
  · go_enter Try.func4, Try.ntmps4
    go_wp2_with fail
    refine (hawake _).mono ?_
    rintro e w1 ⟨rfl, h1⟩
    go_wp2_with fail
    go_ret
    exact ⟨rfl, h1⟩
  have hn60 : n ≤ 60 := by omega
  have hgt : decide ((60 : Int) < (n : Int)) = false := by simp; omega
  clear hbig
  go_enter Try.func4, Try.ntmps4
  go_wp2_with fail
  refine (hawake _).mono ?_
  rintro e w1 ⟨rfl, h1⟩
  go_wp2_with fail
  refine (hist_new _).mono ?_
  rintro e w2 ⟨rfl, h2, k2⟩
  have hw1 := h1.size
  have hw2 := k2.size
  have hB2 : w1.heap.size ≤ w2.heap.size := hw2
  have b2 := h1.trans (k2.mono hw1)
  have hs2 := hs.below (b2.mono hB0)
  clear h1 k2 hs
  generalize hBb : w1.heap.size = B at *
  clear hBb
  have HL := Lib.hid hel
  clear hel
  have hrun0 : HS.run (evs.take 0) = HS.new := rfl
  rw [← hrun0] at h2
  clear hrun0
  go_wp2_with fail
  go_loopw [20] (fun i wr => ∃ k : Nat, k ≤ n ∧ i = .int .i64 k ∧ HAt wr B B (HS.run (evs.take k)) ∧ Below w.heap.size w wr ∧ Below B w2 wr ∧ Sl wr B0 7 A n (evs.flatMap Ev.cells)) (fun i _ => n - (intOf i).toNat)
  case atStart => exact ⟨0, by omega, rfl, h2, b2, Below.refl _ _, hs2⟩
  case round =>
    obtain ⟨k, hk, rfl, hh, hb, hb2, hsl⟩ := hrel
    by_cases hlt : k < n
    · have dk : decide ((k : Int) < (n : Int)) = true := by simp; omega
      obtain ⟨e, he⟩ : ∃ e, evs[k]? = some e := ⟨_, List.getElem?_eq_getElem (by rw [HL.out]; exact hlt)⟩
      have hstep : HS.run (evs.take (k + 1)) = (HS.run (evs.take k)).step e := by
        rw [List.take_add_one, he]; exact HS.run_snoc _ _
      have hlen : (HS.run (evs.take k)).evs.length ≤ 1000 := by
        have h1 := HS.len_run (evs.take k)
        have h2 := List.length_take_le k evs
        omega
      have hidx := hsl.idx (P := Try.prog) (c := c) Try.underlying29 evSize hlt
      obtain ⟨f0, f1, f2, f3, f4, f5, f6⟩ := ev_cells hsl hlt he
      have hbs := hb.size
      have hbs2 := hb2.size
      have HE := Lib.hid he
      clear he
      have hbs2' : B ≤ wr.heap.size := by omega
      cases hen : e.ends with
      | true =>
        rw [hen] at f1
        have hst : (HS.run (evs.take k)).step e = (HS.run (evs.take k)).end_ e.th e.code e.ok e.val := by simp [HS.step, hen]
        rw [hst] at hstep
        have HS1 := Lib.hid hstep
        clear hstep hst hen
        go_wp2_with fail
        clear f0 f1 f2 f3 f4 f5 f6 hidx
        refine (hist_end B (HS.run (evs.take k)) B _ _ _ _ _ (hh.alloc _) (by simp; omega) hlen).mono ?_
        rintro e' w3 ⟨rfl, h3, k3⟩
        have r2 := (hb2.alloc hbs2' (.cells #[.int .i64 e.th, .bool true, .int .i64 e.kind, .int .i64 e.key, .int .i64 e.code, .bool e.ok, .int .i64 e.val] 38)).trans k3.below
        have r1 := (hb.alloc hbs (.cells #[.int .i64 e.th, .bool true, .int .i64 e.kind, .int .i64 e.key, .int .i64 e.code, .bool e.ok, .int .i64 e.val] 38)).trans (k3.below.mono hw1)
        clear hh hb hb2 hsl k3 hlen
        go_wp2_with fail
        go_roundw
        case rel => exact ⟨k + 1, by omega, by go_num, by rw [HS1.out]; exact h3, r1, r2, hs2.below (r2.mono (by omega))⟩
        case measure => simp [intOf]; omega
      | false =>
        rw [hen] at f1
        have hst : (HS.run (evs.take k)).step e = (HS.run (evs.take k)).begin_ e.th e.kind e.key := by simp [HS.step, hen]
        rw [hst] at hstep
        have HS1 := Lib.hid hstep
        clear hstep hst hen
        go_wp2_with fail
        clear f0 f1 f2 f3 f4 f5 f6 hidx
        refine (hist_begin B (HS.run (evs.take k)) B _ _ _ _ (hh.alloc _) (by simp; omega) hlen).mono ?_
        rintro e' w3 ⟨rfl, h3, k3⟩
        have r2 := (hb2.alloc hbs2' (.cells #[.int .i64 e.th, .bool false, .int .i64 e.kind, .int .i64 e.key, .int .i64 e.code, .bool e.ok, .int .i64 e.val] 38)).trans k3.below
        have r1 := (hb.alloc hbs (.cells #[.int .i64 e.th, .bool false, .int .i64 e.kind, .int .i64 e.key, .int .i64 e.code, .bool e.ok, .int .i64 e.val] 38)).trans (k3.below.mono hw1)
        clear hh hb hb2 hsl k3 hlen
        go_wp2_with fail
        go_roundw
        case rel => exact ⟨k + 1, by omega, by go_num, by rw [HS1.out]; exact h3, r1, r2, hs2.below (r2.mono (by omega))⟩
        case measure => simp [intOf]; omega
    · have dk : decide ((k : Int) < (n : Int)) = false := by simp; omega
      have hkn : evs.take k = evs := List.take_of_length_le (by rw [HL.out]; omega)
      rw [hkn] at hh
      have hgood := HS.good_run evs
      have hlen : (HS.run evs).evs.length ≤ 1000 := by
        have h1 := HS.len_run evs
        have h2 := HL.out
        omega
      generalize HS.run evs = s at *
      clear hsl hs2 hkn hb2 b2 h2
      go_wp2_with fail
      refine (hist_calls B s B _ hh hlen).mono ?_
      rintro e' w3 ⟨v, rfl, ho, hb3⟩
      obtain ⟨A2, c2, rfl, hc2, -, -⟩ := own_form ho
      have hsl := Sl.of_own ho
      have hh3 := hh.step hb3
      have hbw3 := hb.trans (hb3.mono hb.size)
      have hw3 := hbw3.size
      clear ho hh hb hb3
      have hm1000 : s.calls.length ≤ 1000 := by have := hgood.wf.le; omega
      generalize hm : s.calls.length = m at *
      have HM := Lib.hid hm
      clear hm
      go_wp2_with fail
      go_loopw [43, 7] (fun i many wr => ∃ j : Nat, j ≤ m ∧ i = .int .i64 j ∧ many = .int .i64 (((s.calls.take j).filter fun c => decide (c.ended < 0)).length : Nat) ∧ Below w3.heap.size w3 wr) (fun i _ _ => m - (intOf i).toNat)
      case atStart => exact ⟨0, by omega, rfl, rfl, Below.refl _ _⟩
      case round =>
        obtain ⟨j, hj, rfl, rfl, hb⟩ := hrel
        by_cases hltj : j < m
        · have dj : decide ((j : Int) < (m : Int)) = true := by simp; omega
          obtain ⟨c0, hc0⟩ : ∃ e, s.calls[j]? = some e := ⟨_, List.getElem?_eq_getElem (by rw [HM.out]; exact hltj)⟩
          have hsl1 := hsl.below hb
          have hidx := hsl1.idx (P := Try.prog) (c := c2) Try.underlying41 hcSize hltj
          obtain ⟨f0, f1, f2, f3, f4, f5, f6, f7, f8⟩ := hc_cells hsl1 hltj hc0
          have hcut := hsl1.cut (k := j + 1) (by omega) hc2
          have hrc := run_cut (P := Try.prog) Try.underlying41 hcSize A2 m c2 (j + 1) ((j : Int) + 1) (by omega) (by omega)
          generalize (if c2 = j + 1 then A2 else A2.map (·.add ((j + 1) * 9))) = A3 at *
          have hbs := hb.size
          rw [flat_drop HC.cells 9 HC.cells_len] at hcut
          have hpend := hgood.pend j c0 hc0
          have hrng := hgood.rng j c0 hc0
          have hord := fun p d => hgood.order j (j + 1 + p) c0 d (by omega) hc0
          have hcnt : ((s.calls.take (j + 1)).filter fun c => decide (c.ended < 0)).length = ((s.calls.take j).filter fun c => decide (c.ended < 0)).length + (if c0.ended < 0 then 1 else 0) := by
            rw [List.take_add_one, hc0, List.filter_append, List.length_append]
            congr 1
            simp only [Option.toList_some, List.filter_cons, List.filter_nil]
            by_cases h : c0.ended < 0 <;> simp [h]
          have hcle : ((s.calls.take j).filter fun c => decide (c.ended < 0)).length ≤ 1000 := by
            have h1 := List.length_filter_le (fun c : HC => decide (c.ended < 0)) (s.calls.take j)
            have h2 := List.length_take_le j s.calls
            omega
          generalize ((s.calls.take j).filter fun c => decide (c.ended < 0)).length = cnt at *
          have HCN := Lib.hid hcnt
          have HP := Lib.hid hpend
          have HO := Lib.hid hord
          have HR := Lib.hid hrng
          clear hcnt hpend hord hrng hc0
          go_wp2_with fail
          have hx := Blk.new wr 44 #[.int .i64 c0.began, .int .i64 c0.ended, .int .i64 c0.id, .int .i64 c0.th, .int .i64 c0.kind, .int .i64 c0.key, .int .i64 c0.code, .bool c0.ok, .int .i64 c0.val]
          have hb4 := hb.alloc hbs (.cells #[.int .i64 c0.began, .int .i64 c0.ended, .int .i64 c0.id, .int .i64 c0.th, .int .i64 c0.kind, .int .i64 c0.key, .int .i64 c0.code, .bool c0.ok, .int .i64 c0.val] 44)
          have hcut4 := hcut.step (hbs) ((Below.refl _ _).alloc (Nat.le_refl _) (.cells #[.int .i64 c0.began, .int .i64 c0.ended, .int .i64 c0.id, .int .i64 c0.th, .int .i64 c0.kind, .int .i64 c0.key, .int .i64 c0.code, .bool c0.ok, .int .i64 c0.val] 44))
          clear f0 f1 f2 f3 f4 f5 f6 f7 f8 hcut hrc hidx hsl1 hb
          generalize (wr.alloc (.cells #[.int .i64 c0.began, .int .i64 c0.ended, .int .i64 c0.id, .int .i64 c0.th, .int .i64 c0.kind, .int .i64 c0.key, .int .i64 c0.code, .bool c0.ok, .int .i64 c0.val] 44)) = w4 at *
          generalize wr.heap.size = X at *
          have hxl := hx.lt
          have hb4s := hb4.size
          go_loopw [53] (fun i wr => ∃ p : Nat, p ≤ m - (j + 1) ∧ i = .int .i64 p ∧ Below w4.heap.size w4 wr) (fun i _ => (m - (j + 1)) - (intOf i).toNat)
          case atStart => exact ⟨0, by omega, rfl, Below.refl _ _⟩
          case round =>
            obtain ⟨p, hp, rfl, hb⟩ := hrel
            by_cases hltp : p < m - (j + 1)
            · have dp : decide ((p : Int) < ((m - (j + 1) : Nat) : Int)) = true := by simp; omega
              obtain ⟨d, hd⟩ : ∃ e, (s.calls.drop (j + 1))[p]? = some e := ⟨_, List.getElem?_eq_getElem (by rw [List.length_drop, HM.out]; exact hltp)⟩
              have hsl5 := hcut4.below (hb.mono hb4s)
              have hidx := hsl5.idx (P := Try.prog) (c := c2 - (j + 1)) Try.underlying41 hcSize hltp
              obtain ⟨f0, f1, f2, f3, f4, f5, f6, f7, f8⟩ := hc_cells hsl5 hltp hd
              have hd' : s.calls[j + 1 + p]? = some d := by rw [← hd, List.getElem?_drop]
              have hbs5 := hb.size
              have hx5 := (hx.below hb hxl).alloc (.cells #[.int .i64 d.began, .int .i64 d.ended, .int .i64 d.id, .int .i64 d.th, .int .i64 d.kind, .int .i64 d.key, .int .i64 d.code, .bool d.ok, .int .i64 d.val] 44)
              have cx := hx5.cells
              have hb6 := hb.alloc hbs5 (.cells #[.int .i64 d.began, .int .i64 d.ended, .int .i64 d.id, .int .i64 d.th, .int .i64 d.kind, .int .i64 d.key, .int .i64 d.code, .bool d.ok, .int .i64 d.val] 44)
              clear hd
              by_cases hth : c0.th = d.th
              · have hob := HO.out p d hd' hth
                have hsp : spanB c0.ended d.began = true := by unfold spanB; simp; omega
                have hthb : (c0.th == d.th) = true := by simpa using hth
                have HSP := Lib.hid hsp
                clear hsp hob hth hd'
                go_wp2_with fail
                refine (span_before_is _ _ _ _ _ _ HSP.out).mono ?_
                rintro e' w6 ⟨rfl, hb7⟩
                clear cx hx5 f0 f1 f2 f3 f4 f5 f6 f7 f8 hidx hsl5
                have hb8 := hb6.trans (hb7.mono hb6.size)
                go_wp2_with fail
                go_roundw
                case rel => exact ⟨p + 1, by omega, by go_num, hb8⟩
                case measure => simp [intOf]; omega
              · have hthb : (c0.th == d.th) = false := by simpa using hth
                clear hth hd'
                go_wp2_with fail
                go_roundw
                case rel => exact ⟨p + 1, by omega, by go_num, hb6⟩
                case measure => simp [intOf]; omega
            · have dp : decide ((p : Int) < ((m - (j + 1) : Nat) : Int)) = false := by simp; omega
              have hx5 := hx.below hb hxl
              have hh5 := hh3.step ((hb4.mono (by omega)).trans (hb.mono (by omega)))
              have hb5 := hb4.trans (hb.mono hb4s)
              have hbs5 := hb5.size
              have cx := hx5.cells
              clear hb
              by_cases hc0 : c0.ended < 0
              · have hcb := Lib.hid (show decide (c0.ended < 0) = true by simpa using hc0)
                have hpd : s.pend c0.th = true := by
                  have h1 := HP.out.1 hc0
                  have h2 := HR.out
                  simp only [HS.pend, Bool.and_eq_true, decide_eq_true_eq]
                  omega
                have HPD := Lib.hid hpd
                have hcn := HCN.out
                rw [if_pos hc0] at hcn
                have HCN2 := Lib.hid hcn
                clear hpd hcn hc0
                go_wp2_with fail
                refine (span_pending_is _ _ _ _ hcb.out).mono ?_
                rintro e' w6 ⟨rfl, hb7⟩
                have hh6 := hh5.step hb7
                clear cx
                have cx := (hx5.step hb7).cells
                have hb8 := hb5.trans (hb7.mono hb5.size)
                go_wp2_with fail
                refine (hist_pending B s B _ _ hh6).mono ?_
                rw [HPD.out]
                rintro e' w7 ⟨rfl, rfl⟩
                go_wp2_with fail
                go_roundw
                case rel => exact ⟨j + 1, by omega, by go_num, by rw [HCN2.out]; go_num, hb8⟩
                case measure => simp [intOf]; omega
              · have hcb := Lib.hid (show decide (c0.ended < 0) = false by simpa using hc0)
                have hcn := HCN.out
                rw [if_neg hc0] at hcn
                have HCN2 := Lib.hid hcn
                clear hcn hc0
                go_wp2_with fail
                refine (span_pending_is _ _ _ _ hcb.out).mono ?_
                rintro e' w6 ⟨rfl, hb7⟩
                clear cx
                have hb8 := hb5.trans (hb7.mono hb5.size)
                go_wp2_with fail
                go_roundw
                case rel => exact ⟨j + 1, by omega, by go_num, by rw [HCN2.out]; go_num, hb8⟩
                case measure => simp [intOf]; omega
        · have dj : decide ((j : Int) < (m : Int)) = false := by simp; omega
          have htk : s.calls.take j = s.calls := List.take_of_length_le (by rw [HM.out]; omega)
          have hcount := hgood.count
          rw [htk]
          clear htk
          have hcle := List.length_filter_le (fun c : HC => decide (c.ended < 0)) s.calls
          rw [HM.out] at hcle hcount
          have hh4 := hh3.step hb
          generalize (s.calls.filter fun c => decide (c.ended < 0)).length = cnt at *
          have hfin : ((s.evs.length : Int) == 2 * (m : Int) - (cnt : Int)) = true := by rw [beq_iff_eq]; omega
          have HF := Lib.hid hfin
          clear hfin hcount
          go_wp2_with fail
          refine (hist_len B s B _ hh4).mono ?_
          rintro e' w7 ⟨rfl, rfl⟩
          have hfin := HF.out
          go_wp2_with fail
          go_ret
          exact ⟨by first | rfl | rw [HF.out], hbw3.trans (hb.mono hw3)⟩

end Go.Proofs.Ytboommppikfgnaa
