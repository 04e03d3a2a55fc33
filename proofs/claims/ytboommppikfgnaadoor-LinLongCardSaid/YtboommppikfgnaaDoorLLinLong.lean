/- The law LinLong, walked.
   Conditions: the table of powers of ten lies as laid. -/
import Derived.Test.YtboommppikfgnaaDoorLinAwake
import Derived.Test.YtboommppikfgnaaDoorLinLaps
namespace Go.Proofs.YtboommppikfgnaaDoor
open Go Go.RowKit

theorem cost_one : ∀ u : Nat, cost 1 u = u + 1
  | 0 => rfl
  | u + 1 => by simp only [cost, cost_one u]; omega

set_option maxRecDepth 100000 in
set_option maxHeartbeats 4000000 in
theorem law_LinLong (shape many : Int) (w : World) (hs : 0 ≤ shape ∧ shape ≤ 255) (hm : 0 ≤ many ∧ many ≤ 255) (htab : ∀ w', Below w.heap.size w w' → Lib.TabIs Tryd.prog w' "internal/strconv.uint64pow10" .u64 Lib.pow10Tab) :
    Calls Tryd.prog 7 #[.int .u8 shape, .int .u8 many] w fun e w' => e = .returned (.bool true) ∧ Below w.heap.size w w' := by
  have HAW := Lib.hid (lin_awake w htab)
  have HT := Lib.hid htab
  clear htab
  obtain ⟨R, hR⟩ : ∃ R : Int, shape % 4 = R := ⟨_, rfl⟩
  obtain ⟨M, hM⟩ : ∃ M : Nat, many % 40 = (M : Int) := ⟨(many % 40).toNat, by omega⟩
  have hR4 : 0 ≤ R ∧ R ≤ 3 := by omega
  have hM40 : M < 40 := by omega
  have hRt : shape.tmod 4 = R := by rw [Int.tmod_eq_emod_of_nonneg hs.1]; exact hR
  have hMt : many.tmod 40 = (M : Int) := by rw [Int.tmod_eq_emod_of_nonneg hm.1]; exact hM
  go_enter Tryd.func7, Tryd.ntmps7
  go_wp2_with fail
  refine HAW.out.mono ?_
  rintro e w1 ⟨rfl, hb1⟩
  go_wp2_with fail
  refine (hist_new w1).mono ?_
  rintro e w2 ⟨rfl, h2, hb2⟩
  have hb02 := hb1.trans (hb2.mono hb1.size)
  obtain ⟨b, hb⟩ : ∃ b, w1.heap.size = b := ⟨_, rfl⟩
  rw [hb] at h2 ⊢
  by_cases h2R : R < 2
  ·
    have hgt : ¬ (2 : Int) < 1 + R := by omega
    have hmay : may (1 + R) ⟨3, 0⟩ = true := by
      refine decide_eq_true ?_
      show mayP (1 + R) 3 0
      unfold mayP
      omega
    have hlast := fun (s : HS) (hl : LapsOk (List.replicate M ⟨0, 3, 0, 0, false, 0⟩) s) => goSeq_long (1 + R) 3 false (.inl ⟨rfl, rfl⟩) s.calls (fun c hc => by
      obtain ⟨i, hi, he⟩ := List.mem_iff_getElem.1 hc
      have e1 : s.calls[i]? = some c := by rw [List.getElem?_eq_getElem hi, he]
      rw [hl.calls, List.getElem?_replicate] at e1
      split at e1
      · simp only [Option.map_some] at e1
        injection e1 with e1
        subst e1
        exact ⟨rfl, rfl, rfl, rfl, rfl⟩
      · cases e1) [] (fun _ => rfl)
    have HLA := Lib.hid hlast
    have HMAY := Lib.hid hmay
    clear hlast hmay
    obtain ⟨K, hK⟩ : ∃ K, 1 + R = K := ⟨_, rfl⟩
    rw [hK] at HLA HMAY hgt ⊢
    have hK4 : 1 ≤ K ∧ K ≤ 4 := by omega
    have HK := Lib.hid hK
    clear hK
    go_wp2_with fail
    go_loopw [8] (fun i wr => ∃ (j : Nat) (s : HS), j ≤ M ∧ i = .int .i64 j ∧ LapsOk (List.replicate j ⟨0, 3, 0, 0, false, 0⟩) s ∧ HAt wr b b s ∧ Below b w1 wr ∧ b ≤ wr.heap.size) (fun i _ => M - (intOf i).toNat)
    case atStart => exact ⟨0, HS.new, by omega, rfl, laps_new, h2, by rw [← hb]; exact hb2, by rw [← hb]; exact hb2.size⟩
    case round =>
      obtain ⟨j, s, hj, rfl, hlp, hh, hbr, hbs⟩ := hrel
      have hev := hlp.evs
      rw [List.length_replicate] at hev
      by_cases hlt : j < M
      · have hmid := lap_mid hlp ⟨0, 3, 0, 0, false, 0⟩ ⟨by decide, by decide⟩
        have hstep := lap_step hlp ⟨0, 3, 0, 0, false, 0⟩ ⟨by decide, by decide⟩
        rw [List.length_replicate] at hmid
        rw [← List.replicate_succ'] at hstep
        have HST := Lib.hid hstep
        have hbg := hist_begin b s b 0 3 0 wr hh hbs (by omega)
        obtain ⟨-, -, hev2⟩ := hmid
        obtain ⟨s1, hs1⟩ : ∃ s1, s.begin_ 0 3 0 = s1 := ⟨_, rfl⟩
        rw [hs1] at hbg
        have hev3 : s1.evs.length = 2 * j + 1 := by rw [← hs1]; exact hev2
        have hs2 : s.lap ⟨0, 3, 0, 0, false, 0⟩ = s1.end_ 0 0 false 0 := by rw [← hs1]; rfl
        have HS2 := Lib.hid hs2
        clear hstep hev2 hs1 hs2
        go_wp2_with fail
        refine hbg.mono ?_
        rintro e w3 ⟨rfl, hh3, hk3⟩
        have hbs3 : b ≤ w3.heap.size := Nat.le_trans hbs hk3.size
        clear hbg
        go_wp2_with fail
        refine (hist_end b s1 b 0 0 false 0 w3 hh3 hbs3 (by omega)).mono ?_
        rintro e w4 ⟨rfl, hh4, hk4⟩
        go_wp2_with fail
        go_roundw
        case rel => exact ⟨j + 1, s.lap ⟨0, 3, 0, 0, false, 0⟩, by omega, by go_num, HST.out, by rw [HS2.out]; exact hh4, (hbr.trans hk3.below).trans hk4.below, Nat.le_trans hbs3 hk4.size⟩
        case measure => simp [intOf]; omega
      · obtain rfl : j = M := by omega
        have hln := hlp.len
        rw [List.length_replicate] at hln
        have hseq := laps_seq hlp K (fun x hx => by
          rw [List.mem_replicate] at hx
          rw [hx.2]
          exact HMAY.out)
        have hfind := hseq.find0
        rw [HLA.out s hlp] at hfind
        have hbw : Below w.heap.size w wr := hb1.trans (hbr.mono (by rw [← hb]; exact hb1.size))
        have hsw : w.heap.size ≤ wr.heap.size := hbw.size
        have hnl := fun x => lin_order_no K none x (.inr rfl)
        have hll := fun x => lin_linear_no K none x (.inr rfl)
        have hlg := fun x => lin_legal_no K none (.slice none 0 0) x (.inr rfl)
        have HNL := Lib.hid hnl
        have HLL := Lib.hid hll
        have HLG := Lib.hid hlg
        clear hnl hll hlg
        by_cases hlong : 24 < j
        · have hor := lin_order_long K hK4 b s b wr hh (by omega) (by omega)
          have d24 : (24 : Int) < (j : Int) := by omega
          clear hfind
          go_wp2_with fail
          refine hor.mono ?_
          rintro e x1 ⟨rfl, hx1⟩
          clear hor
          go_wp2_with fail
          refine (HNL.out x1).mono ?_
          rintro e x2 ⟨rfl, hx2⟩
          go_wp2_with fail
          refine (HLL.out x2).mono ?_
          rintro e x3 ⟨rfl, hx3⟩
          go_wp2_with fail
          refine (HLG.out x3).mono ?_
          rintro e x4 ⟨rfl, hx4⟩
          have hbx := (((hbw.trans (hx1.mono hsw)).trans (hx2.mono (by have := hx1.size; omega))).trans (hx3.mono (by have := hx1.size; have := hx2.size; omega))).trans (hx4.mono (by have := hx1.size; have := hx2.size; have := hx3.size; omega))
          go_wp2_with fail
          go_ret
          exact ⟨rfl, hbx⟩
        · have hor := lin_order K hK4 b s b 1 wr hh hlp.good (by omega) (by omega) hseq.branch (by rw [cost_one]; unfold maxLen; omega) (fun w' hb' => HT.out w' (hbw.trans (hb'.mono hsw)))
          rw [hfind] at hor
          have hml : (s.calls.map (·.id)).length = j := by rw [List.length_map, hln]
          have d24 : ¬ (24 : Int) < (j : Int) := by omega
          have HML := Lib.hid hml
          clear hfind hml
          generalize s.calls.map (·.id) = r at *
          go_wp2_with fail
          refine hor.mono ?_
          rintro e x1 ⟨⟨Ar, cr, rfl, -⟩, hx1⟩
          rw [HML.out]
          clear hor
          go_wp2_with fail
          refine (HNL.out x1).mono ?_
          rintro e x2 ⟨rfl, hx2⟩
          go_wp2_with fail
          refine (HLL.out x2).mono ?_
          rintro e x3 ⟨rfl, hx3⟩
          go_wp2_with fail
          refine (HLG.out x3).mono ?_
          rintro e x4 ⟨rfl, hx4⟩
          have hbx := (((hbw.trans (hx1.mono hsw)).trans (hx2.mono (by have := hx1.size; omega))).trans (hx3.mono (by have := hx1.size; have := hx2.size; omega))).trans (hx4.mono (by have := hx1.size; have := hx2.size; have := hx3.size; omega))
          go_wp2_with fail
          go_ret
          exact ⟨rfl, hbx⟩
  ·
    have hgt : (2 : Int) < 1 + R := by omega
    have hmay : may (1 + R) ⟨4, 0⟩ = true := by
      refine decide_eq_true ?_
      show mayP (1 + R) 4 0
      unfold mayP
      omega
    have hlast := fun (s : HS) (hl : LapsOk (List.replicate M ⟨0, 4, 0, 0, true, 0⟩) s) => goSeq_long (1 + R) 4 true (.inr ⟨rfl, rfl⟩) s.calls (fun c hc => by
      obtain ⟨i, hi, he⟩ := List.mem_iff_getElem.1 hc
      have e1 : s.calls[i]? = some c := by rw [List.getElem?_eq_getElem hi, he]
      rw [hl.calls, List.getElem?_replicate] at e1
      split at e1
      · simp only [Option.map_some] at e1
        injection e1 with e1
        subst e1
        exact ⟨rfl, rfl, rfl, rfl, rfl⟩
      · cases e1) [] (fun _ => rfl)
    have HLA := Lib.hid hlast
    have HMAY := Lib.hid hmay
    clear hlast hmay
    obtain ⟨K, hK⟩ : ∃ K, 1 + R = K := ⟨_, rfl⟩
    rw [hK] at HLA HMAY hgt ⊢
    have hK4 : 1 ≤ K ∧ K ≤ 4 := by omega
    have HK := Lib.hid hK
    clear hK
    go_wp2_with fail
    go_loopw [8] (fun i wr => ∃ (j : Nat) (s : HS), j ≤ M ∧ i = .int .i64 j ∧ LapsOk (List.replicate j ⟨0, 4, 0, 0, true, 0⟩) s ∧ HAt wr b b s ∧ Below b w1 wr ∧ b ≤ wr.heap.size) (fun i _ => M - (intOf i).toNat)
    case atStart => exact ⟨0, HS.new, by omega, rfl, laps_new, h2, by rw [← hb]; exact hb2, by rw [← hb]; exact hb2.size⟩
    case round =>
      obtain ⟨j, s, hj, rfl, hlp, hh, hbr, hbs⟩ := hrel
      have hev := hlp.evs
      rw [List.length_replicate] at hev
      by_cases hlt : j < M
      · have hmid := lap_mid hlp ⟨0, 4, 0, 0, true, 0⟩ ⟨by decide, by decide⟩
        have hstep := lap_step hlp ⟨0, 4, 0, 0, true, 0⟩ ⟨by decide, by decide⟩
        rw [List.length_replicate] at hmid
        rw [← List.replicate_succ'] at hstep
        have HST := Lib.hid hstep
        have hbg := hist_begin b s b 0 4 0 wr hh hbs (by omega)
        obtain ⟨-, -, hev2⟩ := hmid
        obtain ⟨s1, hs1⟩ : ∃ s1, s.begin_ 0 4 0 = s1 := ⟨_, rfl⟩
        rw [hs1] at hbg
        have hev3 : s1.evs.length = 2 * j + 1 := by rw [← hs1]; exact hev2
        have hs2 : s.lap ⟨0, 4, 0, 0, true, 0⟩ = s1.end_ 0 0 true 0 := by rw [← hs1]; rfl
        have HS2 := Lib.hid hs2
        clear hstep hev2 hs1 hs2
        go_wp2_with fail
        refine hbg.mono ?_
        rintro e w3 ⟨rfl, hh3, hk3⟩
        have hbs3 : b ≤ w3.heap.size := Nat.le_trans hbs hk3.size
        clear hbg
        go_wp2_with fail
        refine (hist_end b s1 b 0 0 true 0 w3 hh3 hbs3 (by omega)).mono ?_
        rintro e w4 ⟨rfl, hh4, hk4⟩
        go_wp2_with fail
        go_roundw
        case rel => exact ⟨j + 1, s.lap ⟨0, 4, 0, 0, true, 0⟩, by omega, by go_num, HST.out, by rw [HS2.out]; exact hh4, (hbr.trans hk3.below).trans hk4.below, Nat.le_trans hbs3 hk4.size⟩
        case measure => simp [intOf]; omega
      · obtain rfl : j = M := by omega
        have hln := hlp.len
        rw [List.length_replicate] at hln
        have hseq := laps_seq hlp K (fun x hx => by
          rw [List.mem_replicate] at hx
          rw [hx.2]
          exact HMAY.out)
        have hfind := hseq.find0
        rw [HLA.out s hlp] at hfind
        have hbw : Below w.heap.size w wr := hb1.trans (hbr.mono (by rw [← hb]; exact hb1.size))
        have hsw : w.heap.size ≤ wr.heap.size := hbw.size
        have hnl := fun x => lin_order_no K none x (.inr rfl)
        have hll := fun x => lin_linear_no K none x (.inr rfl)
        have hlg := fun x => lin_legal_no K none (.slice none 0 0) x (.inr rfl)
        have HNL := Lib.hid hnl
        have HLL := Lib.hid hll
        have HLG := Lib.hid hlg
        clear hnl hll hlg
        by_cases hlong : 24 < j
        · have hor := lin_order_long K hK4 b s b wr hh (by omega) (by omega)
          have d24 : (24 : Int) < (j : Int) := by omega
          clear hfind
          go_wp2_with fail
          refine hor.mono ?_
          rintro e x1 ⟨rfl, hx1⟩
          clear hor
          go_wp2_with fail
          refine (HNL.out x1).mono ?_
          rintro e x2 ⟨rfl, hx2⟩
          go_wp2_with fail
          refine (HLL.out x2).mono ?_
          rintro e x3 ⟨rfl, hx3⟩
          go_wp2_with fail
          refine (HLG.out x3).mono ?_
          rintro e x4 ⟨rfl, hx4⟩
          have hbx := (((hbw.trans (hx1.mono hsw)).trans (hx2.mono (by have := hx1.size; omega))).trans (hx3.mono (by have := hx1.size; have := hx2.size; omega))).trans (hx4.mono (by have := hx1.size; have := hx2.size; have := hx3.size; omega))
          go_wp2_with fail
          go_ret
          exact ⟨rfl, hbx⟩
        · have hor := lin_order K hK4 b s b 1 wr hh hlp.good (by omega) (by omega) hseq.branch (by rw [cost_one]; unfold maxLen; omega) (fun w' hb' => HT.out w' (hbw.trans (hb'.mono hsw)))
          rw [hfind] at hor
          have hml : (s.calls.map (·.id)).length = j := by rw [List.length_map, hln]
          have d24 : ¬ (24 : Int) < (j : Int) := by omega
          have HML := Lib.hid hml
          clear hfind hml
          generalize s.calls.map (·.id) = r at *
          go_wp2_with fail
          refine hor.mono ?_
          rintro e x1 ⟨⟨Ar, cr, rfl, -⟩, hx1⟩
          rw [HML.out]
          clear hor
          go_wp2_with fail
          refine (HNL.out x1).mono ?_
          rintro e x2 ⟨rfl, hx2⟩
          go_wp2_with fail
          refine (HLL.out x2).mono ?_
          rintro e x3 ⟨rfl, hx3⟩
          go_wp2_with fail
          refine (HLG.out x3).mono ?_
          rintro e x4 ⟨rfl, hx4⟩
          have hbx := (((hbw.trans (hx1.mono hsw)).trans (hx2.mono (by have := hx1.size; omega))).trans (hx3.mono (by have := hx1.size; have := hx2.size; omega))).trans (hx4.mono (by have := hx1.size; have := hx2.size; have := hx3.size; omega))
          go_wp2_with fail
          go_ret
          exact ⟨rfl, hbx⟩
end Go.Proofs.YtboommppikfgnaaDoor
