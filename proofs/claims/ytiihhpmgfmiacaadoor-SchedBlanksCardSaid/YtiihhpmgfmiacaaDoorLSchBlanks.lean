/- The law SchedBlanks, walked.
   Conditions: the cell of internal/bytealg.MaxLen holds an int; the table of powers of ten lies as laid. -/
import Derived.Test.YtiihhpmgfmiacaaDoorSchAwake
import Derived.Test.YtiihhpmgfmiacaaDoorSchWords
import Derived.Laws.Concat
namespace Go.Proofs.YtiihhpmgfmiacaaDoor
open Go Go.RowKit

def gapB (k : Nat) : ByteArray := ⟨(List.replicate k 32).toArray⟩
theorem gapB_size (k : Nat) : (gapB k).size = k := by unfold gapB; simp [ByteArray.size]
theorem gapB_more (k : Nat) : gapB k ++ ⟨#[32]⟩ = gapB (k + 1) := by
  unfold gapB; rw [ByteArray.mk_append_mk, List.replicate_succ']
theorem gapB_list (k : Nat) : (gapB k).data.toList = List.replicate k 32 := by unfold gapB; simp
theorem cells_one_all (ps : List Pk) : ∀ u ∈ ps.flatMap Pk.cells, u.oneCell' = true := by
  intro u hu
  obtain ⟨p, -, h⟩ := List.mem_flatMap.1 hu
  exact Pk.cells_one p u h

set_option maxRecDepth 100000 in
set_option maxHeartbeats 4000000 in
theorem law_SchedBlanks (s t : ByteArray) (many : Int) (m : Int) (w : World) (hb : 0 ≤ many ∧ many ≤ 255) (hm : w.cell? ⟨0, 0, none⟩ = some (.int .i64 m)) (htab : ∀ w', Below w.heap.size w w' → Lib.TabIs Tryd.prog w' "internal/strconv.uint64pow10" .u64 Lib.pow10Tab) :
    Calls Tryd.prog 6 #[.string s, .string t, .int .u8 many] w fun e w' => e = .returned (.bool true) ∧ Below w.heap.size w w' := by
  obtain ⟨iP, hiP, zP, sP, bP⟩ := info_parts info_RPick
  have hsz : Hid (s.size = s.size) := rfl
  have htz : Hid (t.size = t.size) := rfl
  have HAW := Lib.hid (law_awake m w hm htab)
  have HM := Lib.hid hm
  have HT := Lib.hid htab
  clear hm htab
  by_cases hbig : 300 < s.size
  · have d : (300 : Int) < (s.size : Int) := by omega
    go_enter Tryd.func6, Tryd.ntmps6
    go_wp2_with fail
    refine HAW.out.mono ?_
    rintro e w1 ⟨rfl, hb1⟩
    go_wp2_with fail
    go_ret
    exact ⟨rfl, hb1⟩
  · by_cases hbig2 : 300 < t.size
    · have d : ¬ (300 : Int) < (s.size : Int) := by omega
      have d2 : (300 : Int) < (t.size : Int) := by omega
      go_enter Tryd.func6, Tryd.ntmps6
      go_wp2_with fail
      refine HAW.out.mono ?_
      rintro e w1 ⟨rfl, hb1⟩
      go_wp2_with fail
      go_ret
      exact ⟨rfl, hb1⟩
    · have d : ¬ (300 : Int) < (s.size : Int) := by omega
      have d2 : ¬ (300 : Int) < (t.size : Int) := by omega
      obtain ⟨M, hM⟩ : ∃ M : Nat, many = M := ⟨many.toNat, by omega⟩
      subst hM
      obtain ⟨K, hK⟩ : ∃ K, M % 9 = K := ⟨_, rfl⟩
      have hrm : (M : Int).tmod 9 = (K : Int) := by rw [← hK]; rfl
      have hK9 : K < 9 := by omega
      have HRM := Lib.hid hrm
      clear hK
      have hwa := words_many s.data.toList
      have hwb := words_many t.data.toList
      rw [← Lib.size_eq] at hwa hwb
      have hpa := picksL_le (words s.data.toList)
      have hpb := picksL_le (words t.data.toList)
      have hba := badL_le (words s.data.toList)
      have hbb := badL_le (words t.data.toList)
      have hgap := fun k hk => gap_all k hk s.data.toList t.data.toList
      have hfa := picksL_fit (words s.data.toList)
      have hfb := picksL_fit (words t.data.toList)
      have HG := Lib.hid hgap
      have HFA := Lib.hid hfa
      have HFB := Lib.hid hfb
      clear hgap hfa hfb
      go_enter Tryd.func6, Tryd.ntmps6
      go_wp2_with fail
      refine HAW.out.mono ?_
      rintro e w1 ⟨rfl, hb1⟩
      have hm1 := cell_keep hb1 HM.out
      go_wp2_with fail
      refine (sch_parse s m w1 (by omega) hm1).mono ?_
      rintro e w2 ⟨vx, rfl, hox, hb2⟩
      have hb02 := hb1.trans (hb2.mono hb1.size)
      have hm2 := cell_keep hb2 hm1
      go_wp2_with fail
      refine (sch_parse t m w2 (by omega) hm2).mono ?_
      rintro e w3 ⟨vy, rfl, hoy, hb3⟩
      have hb03 := hb02.trans (hb3.mono hb02.size)
      have hm3 := cell_keep hb3 hm2
      have hox' := own_step hox hb3
      obtain ⟨xs, hxs⟩ : ∃ xs, picksL (words s.data.toList) = xs := ⟨_, rfl⟩
      obtain ⟨ys, hys⟩ : ∃ ys, picksL (words t.data.toList) = ys := ⟨_, rfl⟩
      obtain ⟨na, hna⟩ : ∃ na, badL (words s.data.toList) = na := ⟨_, rfl⟩
      obtain ⟨nb, hnb⟩ : ∃ nb, badL (words t.data.toList) = nb := ⟨_, rfl⟩
      rw [hxs] at HG HFA hox' hpa
      rw [hys] at HG HFB hoy hpb
      rw [hna] at HG hba ⊢
      rw [hnb] at HG hbb ⊢
      clear hxs hys hna hnb hox
      obtain ⟨Ax, cx, rfl, -, -, -⟩ := own_form hox'
      obtain ⟨Ay, cy, rfl, -, -, -⟩ := own_form hoy
      have hsx := Sl.of_own hox'
      have hsy := Sl.of_own hoy
      clear hox' hoy hm1 hm2
      have hm3' := Lib.hid hm3
      clear hm3
      go_wp2_with fail
      go_loopw [11, 12] (fun g i wr => ∃ k : Nat, k ≤ K ∧ i = .int .i64 k ∧ g = .string (gapB (k + 1)) ∧ w3 = wr) (fun _ i _ => K - (intOf i).toNat)
      case atStart => exact ⟨0, by omega, rfl, rfl, rfl⟩
      case round =>
        obtain ⟨k, hk, rfl, rfl, rfl⟩ := hrel
        have hgs := gapB_size (k + 1)
        have hrm := HRM.out
        by_cases hlt : k < K
        · have hmore := gapB_more (k + 1)
          generalize gapB (k + 1) = G at *
          have n1 : ¬ 9223372036854775807 < G.size + 1 := by omega
          have HMO := Lib.hid hmore
          have HGS := Lib.hid hgs
          clear hmore hgs
          have dlt : (k : Int) < (K : Int) := by omega
          go_wp2_with fail
          go_roundw
          case rel => exact ⟨k + 1, by omega, by go_num, by rw [HMO.out], trivial⟩
          case measure => simp [intOf]; omega
        · obtain rfl : k = K := by omega
          have hgl := gapB_list (k + 1)
          have hall := HG.out (k + 1) (by omega)
          generalize gapB (k + 1) = G at *
          have n1 : ¬ 9223372036854775807 < G.size + s.size := by omega
          have n2 : ¬ 9223372036854775807 < G.size + s.size + G.size := by omega
          have n3 : ¬ 9223372036854775807 < G.size + s.size + G.size + t.size := by omega
          have n4 : ¬ 9223372036854775807 < G.size + s.size + G.size + t.size + G.size := by omega
          have hT : (G ++ s ++ G ++ t ++ G).data.toList = List.replicate (k + 1) 32 ++ (s.data.toList ++ (List.replicate (k + 1) 32 ++ (t.data.toList ++ List.replicate (k + 1) 32))) := by
            rw [← hgl]; simp [ByteArray.data_append]
          have hTs : (G ++ s ++ G ++ t ++ G).size ≤ 1000000 := by simp [ByteArray.size_append]; omega
          rw [← hT] at hall
          have HTS := Lib.hid hTs
          have HALL := Lib.hid hall
          have HGS := Lib.hid hgs
          clear hgl hall hT hTs hgs
          have hpz := sch_parse (G ++ s ++ G ++ t ++ G) m w3 HTS.out hm3'.out
          rw [HALL.out.1, HALL.out.2] at hpz
          clear HTS HALL
          go_upto_region 12 with (fail)
          go_wp2_with fail
          refine hpz.mono ?_
          rintro e w4 ⟨vz, rfl, hoz, hb4⟩
          clear hpz
          have hb04 := hb03.trans (hb4.mono hb03.size)
          have hm4 := Lib.hid (cell_keep hb4 hm3'.out)
          have hlz : (xs ++ ys).length ≤ 700 := by rw [List.length_append]; omega
          have hlxy : (xs ++ ys).length = xs.length + ys.length := List.length_append
          have hfz : (xs ++ ys).filter Pk.fits = xs ++ ys := by rw [List.filter_append, HFA.out, HFB.out]
          have HFZ := Lib.hid hfz
          have HXY := Lib.hid hlxy
          obtain ⟨Z, hZ⟩ : ∃ Z, xs ++ ys = Z := ⟨_, rfl⟩
          rw [hZ] at hoz hlz HFZ HXY
          have HZ := Lib.hid hZ
          clear hfz hlxy hZ n1 n2 n3 n4
          obtain ⟨Az, cz, rfl, -, -, -⟩ := own_form hoz
          have hsz4 := Sl.of_own hoz
          have hsx4 := (hsx.step (Nat.le_refl _) hb4).more hb4.size
          have hsy4 := (hsy.step (Nat.le_refl _) hb4).more hb4.size
          clear hoz hsx hsy
          go_wp2_with fail
          refine (law_plain Az Z.length cz w4.heap.size Z w4 hsz4 (Nat.le_refl _) rfl (by omega)).mono ?_
          rintro e w5 ⟨v5, rfl, ho5, hb5⟩
          have hb05 := hb04.trans (hb5.mono hb04.size)
          obtain ⟨A5, c5, rfl, -, -, -⟩ := own_form ho5
          have hs5 := Sl.of_own ho5
          have hsx5 := (hsx4.step (Nat.le_refl _) hb5).more hb5.size
          have hsy5 := (hsy4.step (Nat.le_refl _) hb5).more hb5.size
          have hsz5 := (hsz4.step (Nat.le_refl _) hb5).more hb5.size
          have hs5' := hs5
          have hsz5' := hsz5
          clear ho5 hsx4 hsy4 hsz4
          go_wp2_with fail
          refine (law_plain Ax xs.length cx w5.heap.size xs w5 hsx5 (Nat.le_refl _) rfl (by omega)).mono ?_
          rintro e w6 ⟨v6, rfl, ho6, hb6⟩
          have hb06 := hb05.trans (hb6.mono hb05.size)
          have hs6 := (hs5.step (Nat.le_refl _) hb6).more hb6.size
          have hsy6 := (hsy5.step (Nat.le_refl _) hb6).more hb6.size
          have hsz6 := (hsz5.step (Nat.le_refl _) hb6).more hb6.size
          clear hsx5 hsy5 hsz5 hs5
          go_wp2_with fail
          refine (law_plain Ay ys.length cy w6.heap.size ys w6 hsy6 (Nat.le_refl _) rfl (by omega)).mono ?_
          rintro e w7 ⟨v7, rfl, ho7, hb7⟩
          have hb07 := hb06.trans (hb7.mono hb06.size)
          have ho67 := own_step ho6 hb7
          obtain ⟨A7, c7, rfl, -, -, -⟩ := own_form ho7
          have hs7 := (hs6.step (Nat.le_refl _) hb7).more hb7.size
          have hsz7 := (hsz6.step (Nat.le_refl _) hb7).more hb7.size
          have hsy7 := Sl.of_own ho7
          have hb57 : w5.heap.size ≤ w7.heap.size := by have := hb6.size; have := hb7.size; omega
          clear hsy6 hsz6 hs6 ho6 ho7
          go_wp2_with (at_builtin; refine wpList_append_sl _ rfl _ _ _ rfl w5.heap.size 34 iP _ 2 16 Tryd.underlying26 hiP zP sP bP rfl (by omega) v6 xs.length (xs.flatMap Pk.cells) rfl ho67 w7.heap.size A7 ys.length c7 (ys.flatMap Pk.cells) rfl hsy7 (cells_one_all ys) (by unfold maxLen; omega) (by omega) hb57 ?_; intro v8 w8 hown8 hgrow8 hat8)
          obtain ⟨A8, c8, rfl, -, -, -⟩ := own_form hown8
          have hb58 : Below w5.heap.size w5 w8 := ((hb6.trans (hb7.mono hb6.size)).grown hgrow8 hb57 (fun g0 h0 => (own_at ho67 g0 h0).1))
          have hb08 := hb05.trans (hb58.mono hb05.size)
          have hsz8 := ((hsz5'.step (Nat.le_refl _) hb58)).more hb58.size
          have hs8 := ((hs5'.step (Nat.le_refl _) hb58)).more hb58.size
          rw [← List.flatMap_append, HZ.out, show xs.length + ys.length = Z.length from HXY.out.symm] at hown8
          rw [show xs.length + ys.length = Z.length from HXY.out.symm]
          have hso8 := Sl.of_own hown8
          have hm8 := Lib.hid (cell_keep hb08 HM.out)
          clear hsz7 hs7 hsy7 hown8
          refine (law_same A5 A8 Z.length c5 c8 w8.heap.size Z w8 hs8 hso8 (Nat.le_refl _) rfl (by omega)).mono ?_
          rintro e w9 ⟨rfl, hb9⟩
          have hb09 := hb08.trans (hb9.mono hb08.size)
          have hsz9 := (hsz8.step (Nat.le_refl _) hb9).more hb9.size
          clear hsz8 hs8 hso8
          go_wp2_with fail
          have hpick := words_text Z
          rw [HFZ.out] at hpick
          have htl := join_len 43 (textsL Z) (textsL_len Z)
          have htl2 := textsL_le Z
          have htl3 : (textL Z).length ≤ 40000 := by
            have h3 := Nat.mul_le_mul_right 44 htl2
            show (Lib.join (textsL Z) [32]).length ≤ 40000
            omega
          have hbs9 := hb09.size
          have HTL := Lib.hid htl3
          have HP := Lib.hid hpick
          clear htl htl2 htl3 hpick
          refine (sch_text Az Z.length cz w9.heap.size Z w9 hsz9 (Nat.le_refl _) rfl (by omega) (fun w' hb' => HT.out w' (hb09.trans (hb'.mono hbs9)))).mono ?_
          rintro e w10 ⟨rfl, hb10⟩
          have hb010 := hb09.trans (hb10.mono hbs9)
          have hsz10 := (hsz9.step (Nat.le_refl _) hb10).more hb10.size
          have htx : (⟨(textL Z).toArray⟩ : ByteArray).size ≤ 1000000 := by
            show (textL Z).toArray.size ≤ 1000000
            rw [List.size_toArray]; have := HTL.out; omega
          have hpa2 := sch_parse ⟨(textL Z).toArray⟩ m w10 htx (cell_keep hb010 HM.out)
          have hdl : (⟨(textL Z).toArray⟩ : ByteArray).data.toList = textL Z := by simp
          rw [hdl, HP.out.1, HP.out.2] at hpa2
          clear hdl htx hsz9
          generalize (⟨(textL Z).toArray⟩ : ByteArray) = tx at *
          go_wp2_with fail
          refine hpa2.mono ?_
          rintro e w11 ⟨va, rfl, hoa, hb11⟩
          clear hpa2
          have hb011 := hb010.trans (hb11.mono hb010.size)
          obtain ⟨Aa, ca, rfl, -, -, -⟩ := own_form hoa
          have hsa := Sl.of_own hoa
          have hsz11 := (hsz10.step (Nat.le_refl _) hb11).more hb11.size
          clear hoa hsz10
          go_wp2_with fail
          refine (law_plain Aa Z.length ca w11.heap.size Z w11 hsa (Nat.le_refl _) rfl (by omega)).mono ?_
          rintro e w12 ⟨v12, rfl, ho12, hb12⟩
          have hb012 := hb011.trans (hb12.mono hb011.size)
          obtain ⟨A12, c12, rfl, -, -, -⟩ := own_form ho12
          have hs12 := Sl.of_own ho12
          have hsz12 := (hsz11.step (Nat.le_refl _) hb12).more hb12.size
          clear ho12 hsz11 hsa
          go_wp2_with fail
          refine (law_plain Az Z.length cz w12.heap.size Z w12 hsz12 (Nat.le_refl _) rfl (by omega)).mono ?_
          rintro e w13 ⟨v13, rfl, ho13, hb13⟩
          have hb013 := hb012.trans (hb13.mono hb012.size)
          obtain ⟨A13, c13, rfl, -, -, -⟩ := own_form ho13
          have hs13 := Sl.of_own ho13
          have hs12' := (hs12.step (Nat.le_refl _) hb13).more hb13.size
          clear ho13 hsz12 hs12
          go_wp2_with fail
          refine (law_same A12 A13 Z.length c12 c13 w13.heap.size Z w13 hs12' hs13 (Nat.le_refl _) rfl (by omega)).mono ?_
          rintro e w14 ⟨rfl, hb14⟩
          go_wp2_with fail
          go_ret
          exact ⟨rfl, hb013.trans (hb14.mono hb013.size)⟩
end Go.Proofs.YtiihhpmgfmiacaaDoor
