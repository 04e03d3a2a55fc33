/- Contracts of the document's answer for layer 7: Line, Pile, Items, Res; and of layer 1's Ints.
   Conditions: at most 1000 operations. -/
import Derived.Test.YtboommppikfgnaaDoorSRef
namespace Go.Proofs.YtboommppikfgnaaDoor
open Go Go.RowKit

/-- a slice that reads as a list of ints -/
def RowI (w : World) (v : Value) (l : List Int) : Prop := ∃ A c, v = .slice A l.length c ∧ l.length ≤ c ∧ Sl w w.heap.size 1 A l.length (ints l)
theorem RowI.of_own {w : World} {base : Nat} {v : Value} {l : List Int} (h : w.ownsRow base 3 1 v l.length (ints l)) : RowI w v l := by
  obtain ⟨A, c, rfl, h1, -, -⟩ := own_form h
  exact ⟨A, c, rfl, h1, Sl.of_own h⟩
theorem RowI.step {w w' : World} {v : Value} {l : List Int} (h : RowI w v l) (hb : Below w.heap.size w w') : RowI w' v l := by
  obtain ⟨A, c, rfl, h1, h2⟩ := h
  exact ⟨A, c, rfl, h1, (h2.step (Nat.le_refl _) hb).more hb.size⟩

theorem ints_one1 (x : Int) : ints [x] = [.int .i64 x] := rfl
theorem intSz : (Tryd.prog.info? 3).map (·.size) = some 1 := by kernel_rfl
section
variable {A : Option Addr} {n c B : Nat} {ops : List Opn} {w : World}
set_option maxRecDepth 100000 in
set_option maxHeartbeats 1600000 in
theorem ref_Line (hs : Sl w B 2 A n (ops.flatMap Opn.cells)) (hB : B ≤ w.heap.size) (hel : ops.length = n) (hn : n ≤ 1000) :
    Calls Tryd.prog 39 #[.slice A n c] w fun e w' => ∃ v, e = .returned v ∧ RowI w' v (lineS ops) ∧ Below w.heap.size w w' := by
  obtain ⟨iI, hiI, zI, sI, bI⟩ := info_parts info_int
  have HL := Lib.hid hel
  have HD : Hid (lineS ops = (putsS ops).drop ((putsS ops).length - manyS ops)) := rfl
  clear hel
  generalize hN : w.heap.size = N at *
  have hb0 : Below N w w := Below.refl _ _
  have hN0 : N ≤ w.heap.size := by omega
  have HN := Lib.hid hN
  clear hN
  go_enter Tryd.func39, Tryd.ntmps39
  go_wp2
  go_loopw [3, 4] (fun v i wr => ∃ (k : Nat) (l : List Int), k ≤ n ∧ i = .int .i64 k ∧ Hid (l = putsS (ops.take k)) ∧ l.length ≤ k ∧ wr.ownsRow N 3 1 v l.length (ints l) ∧ Below N w wr ∧ N ≤ wr.heap.size) (fun _ i _ => n - (intOf i).toNat)
  case atStart => exact ⟨0, [], Nat.zero_le _, rfl, rfl, Nat.le_refl _, World.ownsRow_nil _ _ _ _, hb0, hN0⟩
  case round =>
    obtain ⟨k, l, hk, rfl, hl, hlk, hown, hb, hNr⟩ := hrel
    have hs' := hs.below (hb.mono hB)
    by_cases hlt : k < n
    · have dk : decide ((k : Int) < (n : Int)) = true := by simp; omega
      obtain ⟨o, ho⟩ : ∃ o, ops[k]? = some o := ⟨_, List.getElem?_eq_getElem (by rw [HL.out]; exact hlt)⟩
      have hidx := hs'.idx (P := Tryd.prog) (c := c) Tryd.underlying41 opSz hlt
      obtain ⟨f0, f1⟩ := op_cells hs' hlt ho
      have hst := Lib.hid (show putsS (ops.take (k + 1)) = if o.kind = 4 then putsS (ops.take k) ++ [o.key] else putsS (ops.take k) by
        rw [List.take_add_one, ho]; exact putsS_snoc _ _)
      clear ho
      obtain ⟨okd, oky⟩ := o
      simp only at f0 f1 hst
      by_cases h4 : okd = 4
      · subst h4
        have hl' := Lib.hid (show l ++ [oky] = putsS (ops.take (k + 1)) by rw [hst.out, if_pos rfl, hl.out])
        obtain ⟨A1, c1, rfl, -, -, -⟩ := own_form hown
        have hown' := hown.alloc (.cells #[.int .i64 oky] 3)
        go_wp2_with (at_builtin; refine wpList_append_lies _ rfl _ _ _ rfl N 3 iI _ 1 8 Tryd.underlying29 hiI zI sI bI rfl (by omega) (.slice A1 l.length c1) l.length (ints l) rfl hown' ⟨wr.heap.size, 0, none⟩ 1 1 [.int .i64 oky] rfl rfl (World.news_of_block (heap_alloc_new wr _)) (ints_one [oky]) (by omega) (by unfold maxLen; omega) (by omega) (by simp; omega) (wr.heap.size + 1) (by simp) ?_; intro g cap w11 hown2 hgrow hat hlt2)
        have hb11 := (hb.alloc hNr (.cells #[.int .i64 oky] 3)).grown hgrow (by simp; omega) (fun x hx => (own_at hown' x hx).1)
        have hs11 := hgrow.size
        have hs12 : wr.heap.size + 1 ≤ w11.heap.size := by simpa using hs11
        have hown3 : w11.ownsRow N 3 1 (.slice (some ⟨g, 0, none⟩) (l.length + 1) cap) (l ++ [oky]).length (ints (l ++ [oky])) := by rw [ints_app, ints_one1]; simpa using hown2
        clear hown hown' hown2 hgrow hat hlt2 hs11
        go_wp2
        go_roundw
        case rel => exact ⟨k + 1, l ++ [oky], by omega, by go_num, hl', by simp; omega, hown3, hb11, by omega⟩
        case measure => simp [intOf] <;> omega
      · have e4 : (okd == 4) = false := by simpa using h4
        have hl' := Lib.hid (show l = putsS (ops.take (k + 1)) by rw [hst.out, if_neg h4, hl.out])
        clear h4
        go_wp2
        go_roundw
        case rel => exact ⟨k + 1, l, by omega, by go_num, hl', by omega, hown, hb, hNr⟩
        case measure => simp [intOf] <;> omega
    · have dk : decide ((k : Int) < (n : Int)) = false := by simp; omega
      have hkn : k = n := by omega
      subst hkn
      have hle : l = putsS ops := by rw [hl.out, List.take_of_length_le (by rw [HL.out]; exact Nat.le_refl _)]
      have hml := manyS_le ops
      have hmany := ref_Many (c := c) hs' HL.out hn
      rw [← hle] at HD hml
      generalize hMM : manyS ops = M at *
      obtain ⟨A1, c1, rfl, hlc, -, -⟩ := own_form hown
      have hsl := (Sl.of_own hown).cut (k := l.length - M) (by omega) hlc
      have hcut := run_cut (P := Tryd.prog) Tryd.underlying29 intSz A1 l.length c1 (l.length - M) ((l.length : Int) - (M : Int)) (by omega) (by omega)
      obtain ⟨A2, hA2⟩ : ∃ A2, A2 = (if c1 = l.length - M then A1 else A1.map (·.add ((l.length - M) * 1))) := ⟨_, rfl⟩
      rw [← hA2] at hsl hcut
      have hlen : (lineS ops).length = M := by rw [HD.out, List.length_drop]; omega
      have hlm : l.length - (l.length - M) = M := by omega
      rw [hlm] at hsl hcut
      have hrow : Hid (RowI wr (.slice A2 M (c1 - (l.length - M))) (lineS ops)) := by
        refine ⟨A2, _, by rw [hlen], by rw [hlen]; omega, ?_⟩
        rw [hlen, HD.out]
        have e : ints (l.drop (l.length - M)) = (ints l).drop ((l.length - M) * 1) := by simp [ints]
        rw [e]
        exact hsl
      clear hA2 hsl hlen hlm hMM hle HD
      generalize l.length = L at *
      have hML : (M : Int) ≤ (L : Int) := by omega
      go_wp2_with fail
      refine hmany.mono ?_
      rintro e w' ⟨rfl, rfl⟩
      go_wp2_with fail
      go_ret
      have hN := HN.out
      subst hN
      exact ⟨_, rfl, hrow.out, hb⟩

theorem pile_step4 {ops : List Opn} {k : Nat} {key : Int} (h : ops[k]? = some ⟨4, key⟩) : pileS (ops.take (k + 1)) = key :: pileS (ops.take k) ∧ manyS (ops.take (k + 1)) = manyS (ops.take k) + 1 := by
  rw [List.take_add_one, h]
  exact ⟨by rw [Option.toList_some, pileS_snoc, if_pos rfl], by rw [Option.toList_some, manyS_snoc, if_pos rfl]⟩
theorem pile_stepN {ops : List Opn} {k : Nat} {o : Opn} (h : ops[k]? = some o) (hk : o.kind ≠ 4) : pileS (ops.take (k + 1)) = (pileS (ops.take k)).tail ∧ manyS (ops.take (k + 1)) = manyS (ops.take k) - 1 := by
  rw [List.take_add_one, h]
  exact ⟨by rw [Option.toList_some, pileS_snoc, if_neg hk], by rw [Option.toList_some, manyS_snoc, if_neg hk]⟩
/-- what is left of a stack's items when some have been found -/
def pileLeft (ops : List Opn) (j nd : Nat) : List Int := (pileS (ops.take j)).drop (manyS (ops.take j) - nd)
theorem pileLeft_hit {ops : List Opn} {k nd : Nat} {key : Int} (h : ops[k]? = some ⟨4, key⟩) (hm : manyS (ops.take k) = nd) : pileLeft ops (k + 1) (nd + 1) = key :: pileLeft ops k nd := by
  unfold pileLeft
  rw [(pile_step4 h).1, (pile_step4 h).2, hm, Nat.sub_self, Nat.sub_self]
  simp
theorem pileLeft_miss4 {ops : List Opn} {k nd : Nat} {key : Int} (h : ops[k]? = some ⟨4, key⟩) (hm : manyS (ops.take k) ≠ nd) (hle : nd + 1 ≤ manyS (ops.take (k + 1))) : pileLeft ops (k + 1) (nd + 1) = pileLeft ops k (nd + 1) ∧ nd + 1 ≤ manyS (ops.take k) := by
  rw [(pile_step4 h).2] at hle
  refine ⟨?_, by omega⟩
  unfold pileLeft
  rw [(pile_step4 h).1, (pile_step4 h).2]
  rw [show manyS (ops.take k) + 1 - (nd + 1) = (manyS (ops.take k) - (nd + 1)) + 1 by omega, List.drop_succ_cons]
theorem pileLeft_missN {ops : List Opn} {k nd : Nat} {o : Opn} (h : ops[k]? = some o) (hk : o.kind ≠ 4) (hle : nd + 1 ≤ manyS (ops.take (k + 1))) : pileLeft ops (k + 1) (nd + 1) = pileLeft ops k (nd + 1) ∧ nd + 1 ≤ manyS (ops.take k) := by
  rw [(pile_stepN h hk).2] at hle
  refine ⟨?_, by omega⟩
  unfold pileLeft
  rw [(pile_stepN h hk).1, (pile_stepN h hk).2, List.drop_tail, show manyS (ops.take k) - 1 - (nd + 1) + 1 = manyS (ops.take k) - (nd + 1) by omega]
theorem pileLeft_zero (ops : List Opn) (j : Nat) : pileLeft ops j 0 = [] := by
  unfold pileLeft
  rw [Nat.sub_zero, ← pileS_len, List.drop_length]
theorem pileLeft_all (ops : List Opn) (j : Nat) : pileLeft ops j (manyS (ops.take j)) = pileS (ops.take j) := by
  unfold pileLeft
  rw [Nat.sub_self, List.drop_zero]

set_option maxRecDepth 100000 in
set_option maxHeartbeats 3200000 in
theorem ref_Pile (hs : Sl w B 2 A n (ops.flatMap Opn.cells)) (hB : B ≤ w.heap.size) (hel : ops.length = n) (hn : n ≤ 1000) (hnc : n ≤ c) :
    Calls Tryd.prog 40 #[.slice A n c] w fun e w' => ∃ v, e = .returned v ∧ RowI w' v (pileS ops) ∧ Below w.heap.size w w' := by
  obtain ⟨iI, hiI, zI, sI, bI⟩ := info_parts info_int
  have HL := Lib.hid hel
  have hmany := ref_Many (c := c) hs hel hn
  have hall := pileLeft_all ops n
  rw [List.take_of_length_le (by omega)] at hall
  have hmle : manyS ops ≤ 1000 := by have := manyS_le' ops; omega
  have htn : manyS ops = manyS (ops.take n) := by rw [List.take_of_length_le (by omega)]
  have HT := Lib.hid htn
  have h0 := Lib.hid (show pileS ops = [] ++ pileLeft ops n (manyS ops) by rw [List.nil_append]; exact hall.symm)
  clear hel hall htn
  generalize hN : w.heap.size = N at *
  have hb0 : Below N w w := Below.refl _ _
  have hN0 : N ≤ w.heap.size := by omega
  have HN := Lib.hid hN
  clear hN
  go_enter Tryd.func40, Tryd.ntmps40
  go_wp2_with fail
  refine hmany.mono ?_
  rintro e w' ⟨rfl, rfl⟩
  go_wp2_with fail
  go_loopw [3, 4, 5] (fun v nd i wr => ∃ (j d : Nat) (l : List Int), j ≤ n ∧ i = .int .i64 ((j : Int) - 1) ∧ nd = .int .i64 d ∧ d ≤ 1000 ∧ Hid (d ≤ manyS (ops.take j)) ∧ Hid (pileS ops = l ++ pileLeft ops j d) ∧ l.length + j ≤ n ∧ wr.ownsRow N 3 1 v l.length (ints l) ∧ Below N w wr ∧ N ≤ wr.heap.size) (fun _ _ i _ => (intOf i + 1).toNat)
  case atStart => exact ⟨n, manyS ops, [], Nat.le_refl _, rfl, rfl, hmle, (Nat.le_of_eq HT.out : _), h0, by simp, World.ownsRow_nil _ _ _ _, hb0, hN0⟩
  case round =>
    obtain ⟨j, d, l, hj, rfl, rfl, hd1, hd2, hl, hlk, hown, hb, hNr⟩ := hrel
    rcases j with _ | k
    · have hfin : l = pileS ops := by
        have h1 := hd2.out
        have h2 : d = 0 := by
          have : manyS (ops.take 0) = 0 := rfl
          omega
        rw [hl.out, h2, pileLeft_zero, List.append_nil]
      have HF := Lib.hid hfin
      clear hfin hl
      go_wp2_with fail
      go_ret
      have hN := HN.out
      subst hN
      exact ⟨_, rfl, by rw [← HF.out]; exact RowI.of_own hown, hb⟩
    · have e : ((k + 1 : Nat) : Int) - 1 = (k : Int) := by omega
      rw [e]
      clear e
      have hk : k < n := by omega
      have hg0 : (0 : Int) ≤ (k : Int) := by omega
      rcases d with _ | d
      · have hfin := Lib.hid (show l = pileS ops by rw [hl.out, pileLeft_zero, List.append_nil])
        clear hl
        go_wp2_with fail
        go_ret
        have hN := HN.out
        subst hN
        exact ⟨_, rfl, by rw [← hfin.out]; exact RowI.of_own hown, hb⟩
      · have hs' := hs.below (hb.mono hB)
        obtain ⟨o, ho⟩ : ∃ o, ops[k]? = some o := ⟨_, List.getElem?_eq_getElem (by rw [HL.out]; exact hk)⟩
        have hidx := hs'.idx (P := Tryd.prog) (c := c) Tryd.underlying41 opSz hk
        obtain ⟨f0, f1⟩ := op_cells hs' hk ho
        have hdp : (0 : Int) < ((d + 1 : Nat) : Int) := by omega
        have hup := run_upto (P := Tryd.prog) Tryd.underlying41 opSz A n c k (k : Int) rfl (by omega)
        have hsk := hs'.upto (k := k) (by omega)
        rw [flat_take Opn.cells 2 Opn.cells_len] at hsk
        have hmk := ref_Many (c := c) hsk (by rw [List.length_take, HL.out]; omega) (by omega)
        have HO := Lib.hid ho
        clear ho hsk
        obtain ⟨okd, oky⟩ := o
        simp only at f0 f1
        by_cases h4 : okd = 4
        · subst h4
          by_cases hm : manyS (ops.take k) = d
          · have hl' := Lib.hid (show pileS ops = (l ++ [oky]) ++ pileLeft ops k d by rw [hl.out, pileLeft_hit HO.out hm, List.append_assoc]; rfl)
            have hd2' : Hid (d ≤ manyS (ops.take k)) := Nat.le_of_eq hm.symm
            rw [hm] at hmk
            clear hm hl hd2
            obtain ⟨A1, c1, rfl, -, -, -⟩ := own_form hown
            have hown' := hown.alloc (.cells #[.int .i64 oky] 3)
            go_wp2_with fail
            refine hmk.mono ?_
            rintro e w' ⟨rfl, rfl⟩
            go_wp2_with (at_builtin; refine wpList_append_lies _ rfl _ _ _ rfl N 3 iI _ 1 8 Tryd.underlying29 hiI zI sI bI rfl (by omega) (.slice A1 l.length c1) l.length (ints l) rfl hown' ⟨wr.heap.size, 0, none⟩ 1 1 [.int .i64 oky] rfl rfl (World.news_of_block (heap_alloc_new wr _)) (ints_one [oky]) (by omega) (by unfold maxLen; omega) (by omega) (by simp; omega) (wr.heap.size + 1) (by simp) ?_; intro g cap w11 hown2 hgrow hat hlt2)
            have hb11 := (hb.alloc hNr (.cells #[.int .i64 oky] 3)).grown hgrow (by simp; omega) (fun x hx => (own_at hown' x hx).1)
            have hs11 := hgrow.size
            have hs12 : wr.heap.size + 1 ≤ w11.heap.size := by simpa using hs11
            have hown3 : w11.ownsRow N 3 1 (.slice (some ⟨g, 0, none⟩) (l.length + 1) cap) (l ++ [oky]).length (ints (l ++ [oky])) := by rw [ints_app, ints_one1]; simpa using hown2
            clear hown hown' hown2 hgrow hat hlt2 hs11
            go_wp2
            go_roundw
            case rel => exact ⟨k, d, l ++ [oky], by omega, rfl, by first | rfl | go_num | (congr 1; omega), by omega, hd2', hl', by simp; omega, hown3, hb11, by omega⟩
            case measure => simp [intOf] <;> omega
          · obtain ⟨hx1, hx2⟩ := pileLeft_miss4 HO.out hm hd2.out
            have hl' := Lib.hid (show pileS ops = l ++ pileLeft ops k (d + 1) by rw [hl.out, hx1])
            have hd2' := Lib.hid hx2
            generalize hM : manyS (ops.take k) = M at hmk hm
            have hMb : M ≤ 1000 := by have := manyS_le' (ops.take k); rw [List.length_take] at this; omega
            have hmb : ((M : Int) == (d : Int)) = false := by simp; omega
            clear hm hl hd2 hx1 hx2 hM
            go_wp2_with fail
            refine hmk.mono ?_
            rintro e w' ⟨rfl, rfl⟩
            go_wp2
            go_roundw
            case rel => exact ⟨k, d + 1, l, by omega, rfl, by first | rfl | go_num, by omega, hd2', hl', by omega, hown, hb, hNr⟩
            case measure => simp [intOf] <;> omega
        · have e4 : (okd == 4) = false := by simpa using h4
          obtain ⟨hx1, hx2⟩ := pileLeft_missN HO.out h4 hd2.out
          have hl' := Lib.hid (show pileS ops = l ++ pileLeft ops k (d + 1) by rw [hl.out, hx1])
          have hd2' := Lib.hid hx2
          clear h4 hl hd2 hx1 hx2
          go_wp2
          go_roundw
          case rel => exact ⟨k, d + 1, l, by omega, rfl, by first | rfl | go_num, by omega, hd2', hl', by omega, hown, hb, hNr⟩
          case measure => simp [intOf] <;> omega
end
end Go.Proofs.YtboommppikfgnaaDoor
