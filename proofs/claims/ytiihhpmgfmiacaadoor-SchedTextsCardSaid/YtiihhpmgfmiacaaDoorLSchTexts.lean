/- The law SchedTexts, walked.
   Conditions: the cell of internal/bytealg.MaxLen holds an int; the table of powers of ten lies as laid. -/
import Derived.Test.YtiihhpmgfmiacaaDoorSchAwake
import Derived.Test.YtiihhpmgfmiacaaDoorSchWid
namespace Go.Proofs.YtiihhpmgfmiacaaDoor
open Go Go.RowKit

theorem filter_snoc (ps : List Pk) (k : Nat) (p : Pk) (h : ps[k]? = some p) : (ps.take (k + 1)).filter Pk.fits = (ps.take k).filter Pk.fits ++ if p.fits then [p] else [] := by
  rw [take_snoc ps k p h, List.filter_append]
  congr 1
  rw [List.filter_cons, List.filter_nil]
def joinN (qs : List Pk) (k : Nat) : Nat := (Lib.join ((qs.take k).map Pk.text) [32]).length
theorem joinN_snoc (qs : List Pk) (k : Nat) (p : Pk) (h : qs[k]? = some p) (hf : p.fits = true) : joinN qs (k + 1) = joinN qs k + (if k = 0 then 0 else 1) + (widL p.th + if p.tm = 1 then 0 else 1 + widL p.tm) := by
  unfold joinN
  rw [take_snoc qs k p h, List.map_append, List.map_cons, List.map_nil, join_snoc, text_len p hf]
  have hk : ((qs.take k).map Pk.text).length = k := by
    have := (List.getElem?_eq_some_iff.1 h).1
    rw [List.length_map, List.length_take]; omega
  rw [hk]
theorem widL_le (n : Int) (h1 : n ≤ 99999) : widL n ≤ 5 := nDigits_le 4 n.toNat (by simp; omega)
theorem joinN_le (qs : List Pk) (k : Nat) (hq : ∀ p ∈ qs, p.fits = true) : joinN qs k ≤ k * 44 := by
  unfold joinN
  have h1 := join_len 43 ((qs.take k).map Pk.text) (by
    intro x hx
    have : (qs.take k).map Pk.text = textsL (qs.take k) := by
      unfold textsL
      rw [filter_all]
      exact fun p hp => hq p (List.mem_of_mem_take hp)
    rw [this] at hx
    exact textsL_len _ x hx)
  have h2 : ((qs.take k).map Pk.text).length ≤ k := by rw [List.length_map, List.length_take]; omega
  have h3 := Nat.mul_le_mul_right 44 h2
  omega

set_option maxRecDepth 100000 in
set_option maxHeartbeats 4000000 in
theorem law_SchedTexts (A : Option Addr) (len cap : Nat) (ps : List Pk) (m : Int) (w : World) (hs : Sl w w.heap.size 2 A len (ps.flatMap Pk.cells)) (hn : ps.length = len) (hm : w.cell? ⟨0, 0, none⟩ = some (.int .i64 m)) (htab : ∀ w', Below w.heap.size w w' → Lib.TabIs Tryd.prog w' "internal/strconv.uint64pow10" .u64 Lib.pow10Tab) :
    Calls Tryd.prog 4 #[.slice A len cap] w fun e w' => e = .returned (.bool true) ∧ Below w.heap.size w w' := by
  obtain ⟨iP, hiP, zP, sP, bP⟩ := info_parts info_RPick
  have HAW := Lib.hid (law_awake m w hm htab)
  have HM := Lib.hid hm
  have HT := Lib.hid htab
  have HN := Lib.hid hn
  clear hm htab hn
  by_cases hbig : 60 < len
  · have d : (60 : Int) < (len : Int) := by omega
    go_enter Tryd.func4, Tryd.ntmps4
    go_wp2_with fail
    refine HAW.out.mono ?_
    rintro e w1 ⟨rfl, hb1⟩
    go_wp2_with fail
    go_ret
    exact ⟨rfl, hb1⟩
  · have d : ¬ (60 : Int) < (len : Int) := by omega
    go_enter Tryd.func4, Tryd.ntmps4
    go_wp2_with fail
    refine HAW.out.mono ?_
    rintro e w1 ⟨rfl, hb1⟩
    have hs1 := hs.step (Nat.le_refl _) hb1
    go_wp2_with fail
    go_loopw [3, 19] (fun out i wr => ∃ (k : Nat) (qs : List Pk), k ≤ len ∧ i = .int .i64 k ∧ qs = (ps.take k).filter Pk.fits ∧ wr.ownsRow w1.heap.size 34 2 out qs.length (qs.flatMap Pk.cells) ∧ Below w1.heap.size w1 wr) (fun _ i _ => len - (intOf i).toNat)
    case atStart => exact ⟨0, [], by omega, rfl, rfl, World.ownsRow_nil _ _ _ _, Below.refl _ _⟩
    case round =>
      obtain ⟨k, qs, hk, rfl, hqs, hown, hbr⟩ := hrel
      have hql : qs.length ≤ k := by
        have := List.length_filter_le Pk.fits (ps.take k)
        rw [← hqs, List.length_take] at this; omega
      by_cases hlt : k < len
      · obtain ⟨p, hp⟩ : ∃ p, ps[k]? = some p := ⟨_, List.getElem?_eq_getElem (by rw [HN.out]; exact hlt)⟩
        have hs2 := hs1.step hb1.size hbr
        have hidx := hs2.idx (P := Tryd.prog) (c := cap) Tryd.underlying23 pkSz hlt
        obtain ⟨f0, f1⟩ := pk_cells hs2 hlt hp
        have hsn := filter_snoc ps k p hp
        rw [← hqs] at hsn
        have HSN := Lib.hid hsn
        have hbs := hbr.size
        clear hp hqs hsn
        go_upto_region 9 with (fail)
        have hb3 : Below w1.heap.size w1 (wr.alloc (.cells #[.int .i64 p.th, .int .i64 p.tm] 33)) := hbr.alloc (by omega) _
        have hpb := Blk.new wr 33 #[.int .i64 p.th, .int .i64 p.tm]
        have hown3 := hown.alloc (.cells #[.int .i64 p.th, .int .i64 p.tm] 33)
        have hsz := hb3.size
        clear hs2 hidx f0 f1 hown hbr
        generalize (wr.alloc (.cells #[.int .i64 p.th, .int .i64 p.tm] 33)) = w3 at *
        have hc3 := hpb.cells
        by_cases hf : p.fits = true
        · obtain ⟨⟨e1, e2⟩, e3, e4⟩ := fits_iff hf
          have HST : Hid ((ps.take (k + 1)).filter Pk.fits = qs ++ [p]) := by have := HSN.out; rw [hf] at this; exact this
          clear HSN hf
          have hown4 := hown3.alloc (.cells #[.int .i64 p.th, .int .i64 p.tm] 34)
          go_upto_region 10 with (fail)
          go_wp2_with (at_builtin; refine wpList_append_lies _ rfl _ _ _ rfl w1.heap.size 34 iP _ 2 16 Tryd.underlying26 hiP zP sP bP rfl (by omega) _ qs.length (qs.flatMap Pk.cells) rfl hown4 ⟨w3.heap.size, 0, none⟩ 1 1 (Pk.cells p) rfl rfl (World.news_of_block (heap_alloc_new w3 _)) (Pk.cells_one _) (by omega) (by unfold maxLen; omega) (by omega) (by simp; omega) (w3.heap.size + 1) (by simp) ?_; intro g cap9 w9 hown9 hgrow hat hlt9)
          have hgrow' : (w3.alloc (.cells #[.int .i64 p.th, .int .i64 p.tm] 34)).grownBy w9 (Value.ownBlock u3) := hgrow
          clear hgrow hat
          go_roundw
          case rel =>
            refine ⟨k + 1, qs ++ [p], by omega, by go_num, HST.out.symm, ?_, ?_⟩
            · simpa using hown9
            · exact (hb3.alloc (by omega) _).grown hgrow' (by simp; omega) (fun g0 h0 => (own_at hown3 g0 h0).1)
          case measure => simp [intOf]; omega
        · have hff : p.fits = false := by simpa using hf
          have HST : Hid ((ps.take (k + 1)).filter Pk.fits = qs) := by have := HSN.out; rw [hff] at this; exact Lib.hid (by simpa using this)
          have hwhy : ¬ 0 ≤ p.th ∨ (0 ≤ p.th ∧ ¬ p.th ≤ 99999) ∨ (0 ≤ p.th ∧ p.th ≤ 99999 ∧ ¬ 0 ≤ p.tm) ∨ (0 ≤ p.th ∧ p.th ≤ 99999 ∧ 0 ≤ p.tm ∧ ¬ p.tm ≤ 99999) := by
            have : ¬ ((0 ≤ p.th ∧ p.th ≤ 99999) ∧ (0 ≤ p.tm ∧ p.tm ≤ 99999)) := fun h => by simp [Pk.fits, h] at hff
            omega
          clear HSN hf hff
          rcases hwhy with e1 | ⟨e1, e2⟩ | ⟨e1, e2, e3⟩ | ⟨e1, e2, e3, e4⟩
          all_goals
            go_wp2_with fail
            go_roundw
            case rel => exact ⟨k + 1, qs, by omega, by go_num, HST.out.symm, hown3, hb3⟩
            case measure => simp [intOf]; omega
      · obtain rfl : k = len := by omega
        have ht : ps.take k = ps := List.take_of_length_le (by rw [HN.out]; omega)
        rw [ht] at hqs
        obtain ⟨A2, c2, rfl, -, -, -⟩ := own_form hown
        have hso := Sl.of_own hown
        have hb2 := hb1.trans (hbr.mono hb1.size)
        have hs2 := hs.step (Nat.le_refl _) hb2
        have hqf : ∀ p ∈ qs, p.fits = true := fun p hp => by rw [hqs] at hp; exact (List.mem_filter.1 hp).2
        have hpick := words_text ps
        rw [← hqs] at hpick
        have htl : (textL ps).length = joinN qs qs.length := by
          unfold joinN textL textsL
          rw [← hqs, List.take_length]
        have hjl := joinN_le qs qs.length hqf
        have HP := Lib.hid hpick
        have HTL := Lib.hid htl
        have HQF := Lib.hid hqf
        have hbs2 := hb2.size
        have hsz : (⟨(textL ps).toArray⟩ : ByteArray).size ≤ 1000000 := by
          show (textL ps).toArray.size ≤ 1000000
          rw [List.size_toArray, htl]; omega
        have HSZ := Lib.hid hsz
        have htx := sch_text A k cap w.heap.size ps wr hs2 hbs2 HN.out (by omega) (fun w' hb => HT.out w' (hb2.trans (hb.mono hbs2)))
        clear hpick hqs ht htl hown hsz
        go_wp2_with fail
        refine htx.mono ?_
        rintro e w3 ⟨rfl, hb3⟩
        have hb03 := hb2.trans (hb3.mono hbs2)
        have hso3 := (hso.step (Nat.le_refl _) hb3).more hb3.size
        have hbr3 := hbr.trans (hb3.mono hbr.size)
        have hpa := sch_parse ⟨(textL ps).toArray⟩ m w3 HSZ.out (cell_keep hb03 HM.out)
        have hdl : (⟨(textL ps).toArray⟩ : ByteArray).data.toList = textL ps := by simp
        rw [hdl, HP.out.1, HP.out.2] at hpa
        have hts : (⟨(textL ps).toArray⟩ : ByteArray).size = joinN qs qs.length := by
          rw [← HTL.out]; show (textL ps).toArray.size = _; rw [List.size_toArray]
        have HTS := Lib.hid hts
        clear htx hdl hts
        generalize (⟨(textL ps).toArray⟩ : ByteArray) = tx at *
        go_wp2_with fail
        refine hpa.mono ?_
        rintro e w4 ⟨v4, rfl, ho4, hb4⟩
        obtain ⟨A4, c4, rfl, -, -, -⟩ := own_form ho4
        have hs4 := Sl.of_own ho4
        have hb04 := hb03.trans (hb4.mono hb03.size)
        have hbr4 := hbr3.trans (hb4.mono hbr3.size)
        have hso4 := (hso3.step (Nat.le_refl _) hb4).more hb4.size
        clear hpa
        go_wp2_with fail
        refine (law_plain A4 qs.length c4 w4.heap.size qs w4 hs4 (Nat.le_refl _) rfl (by omega)).mono ?_
        rintro e w5 ⟨v5, rfl, ho5, hb5⟩
        obtain ⟨A5, c5, rfl, -, -, -⟩ := own_form ho5
        have hs5 := Sl.of_own ho5
        have hb05 := hb04.trans (hb5.mono hb04.size)
        have hbr5 := hbr4.trans (hb5.mono hbr4.size)
        have hso5 := (hso4.step (Nat.le_refl _) hb5).more hb5.size
        go_wp2_with fail
        refine (law_same A5 A2 qs.length c5 c2 w5.heap.size qs w5 hs5 hso5 (Nat.le_refl _) rfl (by omega)).mono ?_
        rintro e w6 ⟨rfl, hb6⟩
        have hb06 := hb05.trans (hb6.mono hb05.size)
        have hso6 := (hso5.step (Nat.le_refl _) hb6).more hb6.size
        go_wp2_with fail
        obtain ⟨q, hq⟩ : ∃ q, qs.length = q := ⟨_, rfl⟩
        rw [hq] at hso6 hql hjl HTS ⊢
        have HQ := Lib.hid hq
        clear hq hso3 hso4 hso5 hs5 hs4 hso
        go_loopw [9, 68] (fun nv i wr9 => ∃ k9 : Nat, k9 ≤ q ∧ i = .int .i64 k9 ∧ nv = .int .i64 (joinN qs k9) ∧ Below w6.heap.size w6 wr9) (fun _ i _ => q - (intOf i).toNat)
        case atStart => exact ⟨0, by omega, rfl, rfl, Below.refl _ _⟩
        case round =>
          obtain ⟨k9, hk9, rfl, rfl, hbr9⟩ := hrel
          have hj9 := joinN_le qs k9 HQF.out
          by_cases hlt9 : k9 < q
          · obtain ⟨p, hp⟩ : ∃ p, qs[k9]? = some p := ⟨_, List.getElem?_eq_getElem (by rw [HQ.out]; exact hlt9)⟩
            have hf := HQF.out p (List.mem_of_getElem? hp)
            obtain ⟨⟨e1, e2⟩, e3, e4⟩ := fits_iff hf
            have hsn := joinN_snoc qs k9 p hp hf
            have hs9 := hso6.step (Nat.le_refl _) hbr9
            have hidx := hs9.idx (P := Tryd.prog) (c := c2) Tryd.underlying26 rpkSz hlt9
            obtain ⟨f0, f1⟩ := pk_cells hs9 hlt9 hp
            have hbs9 := hbr9.size
            have l1 := widL_le p.th e2
            have l2 := widL_le p.tm e4
            have HSN := Lib.hid hsn
            clear hp hf hsn
            obtain ⟨J, hJ⟩ : ∃ J, joinN qs k9 = J := ⟨_, rfl⟩
            rw [hJ] at hj9 HSN ⊢
            clear hJ
            go_upto_region 20 with (fail)
            have hb7 : Below w6.heap.size w6 (wr.alloc (.cells #[.int .i64 p.th, .int .i64 p.tm] 34)) := hbr9.alloc (by omega) _
            have hpb := Blk.new wr 34 #[.int .i64 p.th, .int .i64 p.tm]
            clear hs9 hidx f0 f1 hbr9
            generalize (wr.alloc (.cells #[.int .i64 p.th, .int .i64 p.tm] 34)) = w7 at *
            have hc3 := hpb.cells
            have d0 : (0 : Int) < (k9 : Int) ∨ ¬ (0 : Int) < (k9 : Int) := by omega
            go_wp2_with fail
            refine (law_width p.th w7 e1 e2).mono ?_
            rintro e w8 ⟨rfl, rfl⟩
            rcases d0 with d0 | d0
            · have c0 : ¬ k9 = 0 := by omega
              by_cases c1 : p.tm = 1
              · have c1b : (p.tm == 1) = true := by simpa using c1
                have hst : joinN qs (k9 + 1) = J + 1 + (widL p.th + 0) := by have := HSN.out; simp only [c0, c1, if_true, if_false] at this; exact this
                have HST := Lib.hid hst
                clear hst c0 c1
                go_wp2_with fail
                go_roundw
                case rel => exact ⟨k9 + 1, by omega, by go_num, by have := HST.out; congr 1; omega, hb7⟩
                case measure => simp [intOf]; omega
              · have c1b : (p.tm == 1) = false := by simpa using c1
                have hst : joinN qs (k9 + 1) = J + 1 + (widL p.th + (1 + widL p.tm)) := by have := HSN.out; simp only [c0, c1, if_true, if_false] at this; exact this
                have HST := Lib.hid hst
                clear hst c0 c1
                go_wp2_with fail
                refine (law_width p.tm w7 e3 e4).mono ?_
                rintro e w8 ⟨rfl, rfl⟩
                go_wp2_with fail
                go_roundw
                case rel => exact ⟨k9 + 1, by omega, by go_num, by have := HST.out; congr 1; omega, hb7⟩
                case measure => simp [intOf]; omega
            · have c0 : k9 = 0 := by omega
              by_cases c1 : p.tm = 1
              · have c1b : (p.tm == 1) = true := by simpa using c1
                have hst : joinN qs (k9 + 1) = J + 0 + (widL p.th + 0) := by have := HSN.out; rw [if_pos c0] at this; simp only [c1, if_true, if_false] at this; exact this
                have HST := Lib.hid hst
                clear hst c0 c1
                go_wp2_with fail
                go_roundw
                case rel => exact ⟨k9 + 1, by omega, by go_num, by have := HST.out; congr 1; omega, hb7⟩
                case measure => simp [intOf]; omega
              · have c1b : (p.tm == 1) = false := by simpa using c1
                have hst : joinN qs (k9 + 1) = J + 0 + (widL p.th + (1 + widL p.tm)) := by have := HSN.out; rw [if_pos c0] at this; simp only [c1, if_true, if_false] at this; exact this
                have HST := Lib.hid hst
                clear hst c0 c1
                go_wp2_with fail
                refine (law_width p.tm w7 e3 e4).mono ?_
                rintro e w8 ⟨rfl, rfl⟩
                go_wp2_with fail
                go_roundw
                case rel => exact ⟨k9 + 1, by omega, by go_num, by have := HST.out; congr 1; omega, hb7⟩
                case measure => simp [intOf]; omega
          · obtain rfl : k9 = q := by omega
            clear hj9 hjl
            have hbe : (joinN qs k9 : Int) = (joinN qs k9 : Int) := rfl
            go_wp2_with fail
            go_ret
            exact ⟨ret_b (by rw [HTS.out]; simp), hb06.trans (hbr9.mono hb06.size)⟩
end Go.Proofs.YtiihhpmgfmiacaaDoor
