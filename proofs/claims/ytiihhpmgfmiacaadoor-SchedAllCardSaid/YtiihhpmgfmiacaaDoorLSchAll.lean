/- The law SchedAll, walked.
   Conditions: the cell of internal/bytealg.MaxLen holds an int; the table of powers of ten lies as laid. -/
import Derived.Test.YtiihhpmgfmiacaaDoorSchAwake
import Derived.Test.YtiihhpmgfmiacaaDoorSchEa
namespace Go.Proofs.YtiihhpmgfmiacaaDoor
open Go Go.RowKit Go.Shelf
attribute [local go_sem] Oper.semAt_some

set_option maxRecDepth 100000 in
set_option maxHeartbeats 4000000 in
theorem law_SchedAll (A : Option Addr) (len cap : Nat) (ps : List Pk) (most : Int) (m : Int) (w : World) (hb : 0 ≤ most ∧ most ≤ 65535) (hs : Sl w w.heap.size 2 A len (ps.flatMap Pk.cells)) (hn : ps.length = len) (hm : w.cell? ⟨0, 0, none⟩ = some (.int .i64 m)) (htab : ∀ w', Below w.heap.size w w' → Lib.TabIs Tryd.prog w' "internal/strconv.uint64pow10" .u64 Lib.pow10Tab) :
    Calls Tryd.prog 5 #[.slice A len cap, .int .u16 most] w fun e w' => e = .returned (.bool true) ∧ Below w.heap.size w w' := by
  have hba : Below w.heap.size w ((w.alloc (.cells #[.int .u16 most] 38)).alloc (.cells #[.bool false] 4)) := ((Below.refl _ _).alloc (Nat.le_refl _) _).alloc (by simp) _
  have HAW := Lib.hid (law_awake m ((w.alloc (.cells #[.int .u16 most] 38)).alloc (.cells #[.bool false] 4)) (cell_keep hba hm) (fun w' hb' => htab w' (hba.trans (hb'.mono hba.size))))
  have hbm := (Blk.new w 38 #[.int .u16 most]).alloc (.cells #[.bool false] 4)
  have hbr : Blk ((w.alloc (.cells #[.int .u16 most] 38)).alloc (.cells #[.bool false] 4)) (w.heap.size + 1) 4 #[.bool false] := Blk.newAt _ _ _ (by simp)
  have HN := Lib.hid hn
  clear hm htab hn
  refine (callsIn_wide (n := 3)).1 ?_
  refine callsIn_of_wp_marks Tryd.func5 rfl trivial ?_ rfl
  refine wpIn_wide.2 ?_
  simp only [Tryd.ntmps5, List.size_toArray, List.length_cons, List.length_nil, Nat.reduceAdd, Nat.reduceSub, Array.replicate_succ, Array.replicate_zero, List.push_toArray, List.append_toArray, List.nil_append, List.cons_append]
  by_cases hbig : 60 < len
  · have d : (60 : Int) < (len : Int) := by omega
    go_wp2_with fail
    refine HAW.out.mono ?_
    rintro e w1 ⟨rfl, hb1⟩
    have hbr1 := hbr.step hb1
    have hc1 := hbr1.cells
    have hf1 := hbr1.frees
    go_wp2_with fail
    refine ⟨.bool true, by simp [results, Tryd.results5, go_sem, (hbr1.set_ 0 (.bool true)).cells], rfl, (hba.trans (hb1.mono hba.size)).setCell (p := ⟨w.heap.size + 1, 0, none⟩) (by simp) _⟩
  · have d : ¬ (60 : Int) < (len : Int) := by omega
    go_wp2_with fail
    refine HAW.out.mono ?_
    rintro e w1 ⟨rfl, hb1⟩
    have hbr1 := hbr.step hb1
    have hbm1 := hbm.step hb1
    have hb01 := hba.trans (hb1.mono hba.size)
    have hs1 := hs.step (Nat.le_refl _) hb01
    go_wp2_with fail
    refine (law_plain A len cap w.heap.size ps w1 hs1 hb01.size HN.out (by omega)).mono ?_
    rintro e w2 ⟨v2, rfl, ho2, hb2⟩
    obtain ⟨A2, c2, rfl, -, -, -⟩ := own_form ho2
    have hb02 := hb01.trans (hb2.mono hb01.size)
    have hs2 := Sl.of_own ho2
    have hbr2 := hbr1.step hb2
    have hbm2 := hbm1.step hb2
    go_wp2_with fail
    refine (ref_all A2 len c2 w2.heap.size ps w2 hs2 (Nat.le_refl _) HN.out (by omega)).mono ?_
    rintro e w3 ⟨v3, rfl, ho3, hb3⟩
    have hb03 := hb02.trans (hb3.mono hb02.size)
    have hbr3 := hbr2.step hb3
    have hbm3 := hbm2.step hb3
    have hs3 := (hs1.below ((hb2.mono hb01.size).trans ((hb3.mono hb2.size).mono hb01.size))).more hb03.size
    have hlen4 := fun w4 (h4 : Sl w4 w4.heap.size 2 A len (ps.flatMap Pk.cells)) => sch_len A len cap ps w4 h4 HN.out (by omega)
    generalize hLe : allL ps = L at *
    have HLE := Lib.hid hLe
    have HLN := Lib.hid hlen4
    obtain ⟨Aw, cw, rfl, -, -, -⟩ := own_form ho3
    have hsw := Sl.of_own ho3
    clear hLe ho3 ho2 hs2 hs1 hbm hbm1 hbm2 hbr hbr1 hbr2 hlen4
    go_upto_region 6 with (fail)
    have hbw := Blk.new w3 39 #[.slice Aw L.length cw]
    have hb4 : Below w3.heap.size w3 (w3.alloc (.cells #[.slice Aw L.length cw] 39)) := (Below.refl _ _).alloc (Nat.le_refl _) _
    generalize (w3.alloc (.cells #[.slice Aw L.length cw] 39)) = w4 at *
    have hl4 := HLN.out w4 ((hs3.below hb4).more hb4.size)
    have hq := Later.cells (B := w4.heap.size) hbw hbw.lt
    refine wp_region_later w4.heap.size (by kernel_rfl) (by kernel_rfl) ?_
    repeat (go_big_quiet_step ((go_at_call 18; exact Later.call (Nat.le_refl _) (HLN.out _ (((hs3.below hb4).more hb4.size |>.below (Later.below _)).more (Later.below _).size)))))
    refine wpQuiet_nil ?_
    intro w5 hq5
    obtain ⟨q5, hq5⟩ := hq5
    have hb45 : Below w4.heap.size w4 w5 := by rw [hq5]; exact q5.below
    have hbw5 := hbw.step hb45
    have hs5 := ((hs3.below hb4).more hb4.size |>.below hb45)
    have hb35 := hb4.trans (hb45.mono hb4.size)
    clear hq5 q5 hq hl4 hbw
    go_upto_region 9 with (fail)
    have ci6 := Blk.new w5 3 #[.int .i64 0]
    have cw6 := hbw5.alloc (.cells #[.int .i64 0] 3)
    have hb36 : Below w3.heap.size w3 (w5.alloc (.cells #[.int .i64 0] 3)) := hb35.alloc hb35.size _
    have hsz6 : (w5.alloc (.cells #[.int .i64 0] 3)).heap.size = w5.heap.size + 1 := by simp
    generalize (w5.alloc (.cells #[.int .i64 0] 3)) = w6 at *
    obtain ⟨Bs, hBs⟩ : ∃ Bs, w6.heap.size = Bs := ⟨_, rfl⟩
    have hall := (callsIn_wide (n := 2)).1 (all_in Fence.wide 2 trivial rfl A len cap w6)
    rw [hBs] at hall
    go_wp2_with fail
    refine hall.mono ?_
    rintro e w7 ⟨rfl, hw7⟩
    have cs7 : Blk w7 Bs 23 #[.slice A len cap] := by rw [hw7, ← hBs]; exact Blk.new w6 _ _
    have ci7 : Blk w7 w5.heap.size 3 #[.int .i64 0] := by rw [hw7]; exact ci6.alloc _
    have cw7 : Blk w7 w3.heap.size 39 #[.slice Aw L.length cw] := by rw [hw7]; exact cw6.alloc _
    have hb37 : Below w3.heap.size w3 w7 := by rw [hw7]; exact hb36.alloc hb36.size _
    have hsz7 : w7.heap.size = Bs + 1 := by rw [hw7, ← hBs]; simp
    have hi5 : w3.heap.size ≤ w5.heap.size := hb35.size
    clear hw7 hall ci6 cw6 hb36 hbw5 hs5 hb45 hb4 hb35 hba HAW
    have hn7 : w3.heap.size ≤ w7.heap.size := hb37.size
    have HSZ : Hid (Bs = w5.heap.size + 1 ∧ w7.heap.size = Bs + 1) := Lib.hid ⟨by omega, hsz7⟩
    have HB3 : Hid (w.heap.size + 1 < w3.heap.size) := Lib.hid (by have := hbr3.lt; exact this)
    clear hsz6 hsz7 hBs
    have hs37 := hs3.below hb37
    go_wp2_with fail
    refine (wpIn_wide (n := 3)).1 ?_
    refine wpIn_rangeFunc_ownG rfl (by omega) (gf := 30) (lb := #[.pointer (some ⟨Bs, 0, none⟩)]) rfl trivial (enters_of Tryd.func30 (by kernel_rfl) rfl)
      (all_stops Fence.wide (3 - 1) trivial rfl (by omega) Bs w3.heap.size len cap A ps w7 cs7.lt hn7 (cs7.cell 0) hs37 HN.out (by omega)) (fun h k => h.trans k) (pkKeep_b hn7) (Below.refl _ _) (fun _ => rfl)
      (fun pre W => pre.isPrefixOf L = true ∧ Below w3.heap.size w3 W ∧ Blk W w3.heap.size 39 #[.slice Aw L.length cw] ∧ Blk W w5.heap.size 3 #[.int .i64 pre.length])
      (fun c pre W => pre.isPrefixOf L = true → (c = .ret ∧ Blk W (w.heap.size + 1) 4 #[.bool true] ∧ Below w.heap.size w W))
      (fun s X Y row ⟨h1, h2, h3, h4⟩ hg hr => ⟨h1, h2.grown hg (by have := h2.size; omega) (fun g e => by have := (hr g e).1; omega), h3.grown hg (fun e => by have := (hr _ e).1; have := HSZ.out; omega), h4.grown hg (fun e => by have := (hr _ e).1; have := HSZ.out; omega)⟩)
      (fun c s X Y row h hg hr hp => by
        obtain ⟨h1, h2, h3⟩ := h hp
        exact ⟨h1, h2.grown hg (fun e => by have := (hr _ e).1; have := HB3.out; omega), h3.grown hg h3.size (fun g e => by have := (hr g e).1; have := HB3.out; omega)⟩)
      ⟨rfl, hb37, cw7, ci7⟩
      (fun x => { tmps := #[.slice A len cap, .int .u16 most, undef, .pointer (some ⟨w.heap.size, 0, none⟩), .pointer (some ⟨w.heap.size + 1, 0, none⟩), .pointer (some ⟨w3.heap.size, 0, none⟩), .pointer (some ⟨w5.heap.size, 0, none⟩), .int .i64 x, .bool true, .bool false, .slice A len cap, .int .i64 len, .bool (decide (60 < (len : Int))), .slice A len cap, .slice A2 len c2, .slice Aw L.length cw, .slice A len cap, .int .i64 L.length, .slice Aw L.length cw, .int .i64 L.length, .bool false, .slice A len cap, .func (.func 30) #[] #[.pointer (some ⟨Bs, 0, none⟩)], .int .i64 x, undef, undef, undef, undef, undef, undef, undef, undef, undef, undef, undef, undef, undef, undef, undef, undef, undef, undef, undef, undef, undef, undef], defers := [] }) ?assign ?body ?done ?stop
    case assign =>
      intro l x W K hK
      gi_wp2
      exact hK
    case body =>
      rintro l pre x W ⟨hpre, hbel, bw, ci⟩ hlen
      have hsn := pre_snoc pre L x
      rw [hpre] at hsn
      have hpl : (pre ++ [x]).length = pre.length + 1 := by simp
      have HPL := Lib.hid hpl
      have HPRE := Lib.hid hpre
      have hcw := bw.cells
      have hci := ci.cells
      have hfi := ci.frees
      have br : Blk W (w.heap.size + 1) 4 #[.bool false] := hbr3.below hbel HB3.out
      have bm : Blk W w.heap.size 38 #[.int .u16 most] := hbm3.below hbel (by have := HB3.out; omega)
      have hcr := br.cells
      have hfr := br.frees
      have hcm := bm.cells
      have hslw := hsw.below hbel
      have hW := hbel.size
      obtain ⟨k, hk⟩ : ∃ k, pre.length = k := ⟨_, rfl⟩
      rw [hk] at hsn hlen hci HPL ci
      have HK := Lib.hid hk
      clear hk hpl hpre
      have hkf : KeepsFrom w7.heap.size W (W.setCell ⟨w.heap.size + 1, 0, none⟩ (.bool false)) := (KeepsOthers.setCell _ _ _).from _
      by_cases h1 : k < L.length
      · obtain ⟨y, hy⟩ : ∃ y, L[k]? = some y := ⟨_, List.getElem?_eq_getElem h1⟩
        have g1 := int_at hslw h1 hy
        have i1 := hslw.idx (P := Tryd.prog) (c := cw) Tryd.underlying39 intSz h1
        simp only [Nat.mul_one] at g1 i1
        rw [hy] at hsn
        have dk : ¬ (L.length : Int) ≤ (k : Int) := by omega
        by_cases hxy : x = y
        · subst hxy
          have hgood : (pre ++ [x]).isPrefixOf L = true := by rw [hsn]; simp
          have HGD := Lib.hid hgood
          clear hsn hgood hy
          have hne : w5.heap.size ≠ w.heap.size + 1 := by have := HB3.out; omega
          have ci1 : Blk (W.setCell ⟨w5.heap.size, 0, none⟩ (.int .i64 ((k : Int) + 1))) w5.heap.size 3 #[.int .i64 ((k : Int) + 1)] := ci.set_ 0 _
          have bw1 := bw.far (p := ⟨w5.heap.size, 0, none⟩) (bw.ne_ ci (by decide)) (.int .i64 ((k : Int) + 1))
          have br1 := br.far (p := ⟨w5.heap.size, 0, none⟩) (Ne.symm hne) (.int .i64 ((k : Int) + 1))
          have bm1 := bm.far (p := ⟨w5.heap.size, 0, none⟩) (by have := HB3.out; simp; omega) (.int .i64 ((k : Int) + 1))
          have hb1 := hbel.setCell (p := ⟨w5.heap.size, 0, none⟩) hi5 (.int .i64 ((k : Int) + 1))
          have pk1 : PkKeep w3.heap.size W (W.setCell ⟨w5.heap.size, 0, none⟩ (.int .i64 ((k : Int) + 1))) := ⟨(Below.refl _ _).setCell (p := ⟨w5.heap.size, 0, none⟩) hi5 _, fun g cs hb => hb.far (hb.ne_ ci (by decide)) _⟩
          have ko1 : KeepsOthers W (W.setCell ⟨w5.heap.size, 0, none⟩ (.int .i64 ((k : Int) + 1))) := KeepsOthers.setCell _ _ _
          gi_upto_region 14 with fail
          generalize (W.setCell ⟨w5.heap.size, 0, none⟩ (.int .i64 ((k : Int) + 1))) = W1 at *
          clear hcw hci hfi hfr hcr hcm g1 i1 hslw hkf
          have hci := ci1.cells
          have hcm := bm1.cells
          have hcr := br1.cells
          have hfr := br1.frees
          by_cases hmost : most < (k : Int) + 1
          · gi_wp2
            refine ⟨(ko1.trans (KeepsOthers.setCell _ _ _)).from _, fun _ => ⟨rfl, br1.set_ 0 _, (hb03.trans (hb1.mono hb03.size)).setCell (p := ⟨w.heap.size + 1, 0, none⟩) (by simp) _⟩⟩
          · gi_wp2
            exact ⟨ko1.from _, pk1, List.isPrefixOf_iff_prefix.1 HGD.out, hb1, bw1, by rw [HPL.out]; exact ci1⟩
        · have hbad : ¬ (pre ++ [x]).isPrefixOf L = true := by rw [hsn]; simp; exact fun e => hxy e.symm
          have e3 : (x == y) = false := beq_eq_false_iff_ne.2 hxy
          have HBD := Lib.hid hbad
          clear hsn hbad hy
          gi_wp2
          exact ⟨hkf, fun h => absurd (List.isPrefixOf_iff_prefix.2 h) HBD.out⟩
      · have hno : L[k]? = none := List.getElem?_eq_none (by omega)
        have hbad : ¬ (pre ++ [x]).isPrefixOf L = true := by rw [hsn, hno]; simp
        have dk : (L.length : Int) ≤ (k : Int) := by omega
        have HBD := Lib.hid hbad
        clear hsn hbad hno
        gi_wp2
        exact ⟨hkf, fun h => absurd h HBD.out⟩
    case done =>
      rintro D ys W hD hys ⟨hpre, hbel, bw, ci⟩ hK
      obtain rfl : ys = L := by rw [hys]; exact HLE.out
      have hcw := bw.cells
      have hci := ci.cells
      have br : Blk W (w.heap.size + 1) 4 #[.bool false] := hbr3.below hbel HB3.out
      have hcr := br.cells
      have hfr := br.frees
      have brd : w.heap.size + 1 ≠ D := by have := HB3.out; omega
      have hb9 := (br.set_ 0 (.bool true)).grown (grownBy_putObj' (W.setCell ⟨w.heap.size + 1, 0, none⟩ (.bool true)) D (.deferred none)) (fun e => brd (by injection e with e; exact e.symm))
      have hc9 := hb9.cells
      have hbw := (hb03.trans (hbel.mono hb03.size)).setCell (p := ⟨w.heap.size + 1, 0, none⟩) (by simp) (.bool true)
      have hK9 : (W.setCell ⟨w.heap.size + 1, 0, none⟩ (.bool true)).heap[D]? = some (.deferred (some [])) := (heap_setCell_other W _ D _ (fun e => brd e.symm)).trans hK
      have HDw : w.heap.size ≤ D := by have := HB3.out; omega
      go_wp2_with fail
      refine ⟨by simp, .inl ⟨_, _, rfl, run_takeDeferred hK9, ?_⟩⟩
      exact ⟨.bool true, by simp [results, Tryd.results5, go_sem, hc9], rfl, hbw.grown (grownBy_putObj' _ D (.deferred none)) hbw.size (fun g e => by injection e with e; omega)⟩
    case stop =>
      rintro D c pre W hD hSp hix hK
      obtain ⟨rfl, hbr9, hbel9⟩ := hix (by rw [List.isPrefixOf_iff_prefix, ← HLE.out]; exact hSp)
      have hc9 := hbr9.cells
      refine wpIn_wide.2 ?_
      have brd : w.heap.size + 1 ≠ D := by have := HB3.out; omega
      have hb9 := hbr9.grown (grownBy_putObj' W D (.deferred none)) (fun e => brd (by injection e with e; exact e.symm))
      have hc9' := hb9.cells
      have HDw : w.heap.size ≤ D := by have := HB3.out; omega
      go_wp2_with fail
      refine ⟨by simp, .inl ⟨_, _, rfl, run_takeDeferred hK, ?_⟩⟩
      exact ⟨.bool true, by simp [results, Tryd.results5, go_sem, hc9'], rfl, hbel9.grown (grownBy_putObj' _ D (.deferred none)) hbel9.size (fun g e => by injection e with e; omega)⟩
end Go.Proofs.YtiihhpmgfmiacaaDoor
