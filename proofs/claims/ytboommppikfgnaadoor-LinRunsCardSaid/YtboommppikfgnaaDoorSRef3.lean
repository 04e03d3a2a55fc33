/- Contracts of the document's answer for layer 7: Items, Res; and of layer 1's Ints.
   Conditions: at most 1000 operations. -/
import Derived.Test.YtboommppikfgnaaDoorSRef2
namespace Go.Proofs.YtboommppikfgnaaDoor
open Go Go.RowKit

theorem upTo_succ (k : Nat) : upTo (k + 1) = upTo k ++ [(k : Int)] := by simp [upTo, List.range_succ]
section
variable {A : Option Addr} {n c B : Nat} {ops : List Opn} {w : World}
set_option maxRecDepth 100000 in
set_option maxHeartbeats 3200000 in
theorem ref_Items (sh : Int) (hs : Sl w B 2 A n (ops.flatMap Opn.cells)) (hB : B ≤ w.heap.size) (hel : ops.length = n) (hn : n ≤ 1000) (hnc : n ≤ c) :
    Calls Tryd.prog 23 #[.int .i64 sh, .slice A n c] w fun e w' => ∃ v, e = .returned v ∧ RowI w' v (refItems sh ops) ∧ Below w.heap.size w w' := by
  by_cases h3 : sh = 3
  · subst h3
    have hl := ref_Line (c := c) hs hB hel hn
    have hd : refItems 3 ops = lineS ops := rfl
    rw [hd]
    clear hd
    go_enter Tryd.func23, Tryd.ntmps23
    go_wp2_with fail
    refine hl.mono ?_
    rintro e w' ⟨v, rfl, hr, hb⟩
    go_wp2_with fail
    go_ret
    exact ⟨_, rfl, hr, hb⟩
  · by_cases h4 : sh = 4
    · subst h4
      have hl := ref_Pile (c := c) hs hB hel hn hnc
      have hd : refItems 4 ops = pileS ops := rfl
      rw [hd]
      clear hd
      go_enter Tryd.func23, Tryd.ntmps23
      go_wp2_with fail
      refine hl.mono ?_
      rintro e w' ⟨v, rfl, hr, hb⟩
      go_wp2_with fail
      go_ret
      exact ⟨_, rfl, hr, hb⟩
    · have e3 : (sh == 3) = false := by simpa using h3
      have e4 : (sh == 4) = false := by simpa using h4
      have hd : refItems sh ops = setS ops := by rw [refItems, if_neg h3, if_neg h4]
      rw [hd]
      have HD : Hid (setS ops = (upTo 1000).filter (inS ops)) := rfl
      clear h3 h4 hd
      obtain ⟨iI, hiI, zI, sI, bI⟩ := info_parts info_int
      have HL := Lib.hid hel
      clear hel
      generalize hN : w.heap.size = N at *
      have hb0 : Below N w w := Below.refl _ _
      have hN0 : N ≤ w.heap.size := by omega
      have HN := Lib.hid hN
      clear hN
      go_enter Tryd.func23, Tryd.ntmps23
      go_wp2_with fail
      go_loopw [5, 6] (fun v i wr => ∃ (k : Nat) (l : List Int), k ≤ 1000 ∧ i = .int .i64 k ∧ Hid (l = (upTo k).filter (inS ops)) ∧ l.length ≤ k ∧ wr.ownsRow N 3 1 v l.length (ints l) ∧ Below N w wr ∧ N ≤ wr.heap.size) (fun _ i _ => 1000 - (intOf i).toNat)
      case atStart => exact ⟨0, [], by omega, rfl, rfl, Nat.le_refl _, World.ownsRow_nil _ _ _ _, hb0, hN0⟩
      case round =>
        obtain ⟨k, l, hk, rfl, hl, hlk, hown, hb, hNr⟩ := hrel
        by_cases hlt : k < 1000
        · have dk : decide ((k : Int) ≤ 999) = true := by simp; omega
          have hin := ref_In (c := c) (k : Int) (hs.below (hb.mono hB)) HL.out hn
          cases hi : inS ops (k : Int) with
          | true =>
            rw [hi] at hin
            have hl' := Lib.hid (show l ++ [(k : Int)] = (upTo (k + 1)).filter (inS ops) by rw [upTo_succ, List.filter_append, hl.out]; simp [hi])
            obtain ⟨A1, c1, rfl, -, -, -⟩ := own_form hown
            have hown' := hown.alloc (.cells #[.int .i64 (k : Int)] 3)
            clear hi hl
            go_wp2_with fail
            refine hin.mono ?_
            rintro e w' ⟨rfl, rfl⟩
            go_wp2_with (at_builtin; refine wpList_append_lies _ rfl _ _ _ rfl N 3 iI _ 1 8 Tryd.underlying29 hiI zI sI bI rfl (by omega) (.slice A1 l.length c1) l.length (ints l) rfl hown' ⟨wr.heap.size, 0, none⟩ 1 1 [.int .i64 (k : Int)] rfl rfl (World.news_of_block (heap_alloc_new wr _)) (ints_one [(k : Int)]) (by omega) (by unfold maxLen; omega) (by omega) (by simp; omega) (wr.heap.size + 1) (by simp) ?_; intro g cap w11 hown2 hgrow hat hlt2)
            have hb11 := (hb.alloc hNr (.cells #[.int .i64 (k : Int)] 3)).grown hgrow (by simp; omega) (fun x hx => (own_at hown' x hx).1)
            have hs11 := hgrow.size
            have hs12 : wr.heap.size + 1 ≤ w11.heap.size := by simpa using hs11
            have hown3 : w11.ownsRow N 3 1 (.slice (some ⟨g, 0, none⟩) (l.length + 1) cap) (l ++ [(k : Int)]).length (ints (l ++ [(k : Int)])) := by rw [ints_app, ints_one1]; simpa using hown2
            clear hown hown' hown2 hgrow hat hlt2 hs11
            go_wp2
            go_roundw
            case rel => exact ⟨k + 1, l ++ [(k : Int)], by omega, by go_num, hl', by simp; omega, hown3, hb11, by omega⟩
            case measure => simp [intOf] <;> omega
          | false =>
            rw [hi] at hin
            have hl' := Lib.hid (show l = (upTo (k + 1)).filter (inS ops) by rw [upTo_succ, List.filter_append, hl.out]; simp [hi])
            clear hi hl
            go_wp2_with fail
            refine hin.mono ?_
            rintro e w' ⟨rfl, rfl⟩
            go_wp2
            go_roundw
            case rel => exact ⟨k + 1, l, by omega, by go_num, hl', by omega, hown, hb, hNr⟩
            case measure => simp [intOf] <;> omega
        · have dk : decide ((k : Int) ≤ 999) = false := by simp; omega
          have hk' : k = 1000 := by omega
          have hfin := Lib.hid (show l = setS ops by rw [hl.out, HD.out, hk'])
          clear hk' hl
          go_wp2_with fail
          go_ret
          have hN := HN.out
          subst hN
          exact ⟨_, rfl, by rw [← hfin.out]; exact RowI.of_own hown, hb⟩

theorem RowI.at_ {w : World} {a : Option Addr} {l : List Int} {m : Nat} (h : Sl w B 1 a m (ints l)) {k : Nat} {x : Int} (hk : k < m) (hx : l[k]? = some x) : w.cell? ⟨ablk a, aoff a + k * 1, none⟩ = some (.int .i64 x) := by
  have := h.at_ (i := 0) hk (by omega)
  rw [Nat.mul_one, Nat.add_zero, Nat.add_zero, ints_at, hx] at this
  rw [Nat.mul_one]; exact this

set_option maxRecDepth 100000 in
set_option maxHeartbeats 3200000 in
theorem ref_Res (sh : Int) (o : Opn) (hs : Sl w B 2 A n (ops.flatMap Opn.cells)) (hB : B ≤ w.heap.size) (hel : ops.length = n) (hn : n ≤ 1000) (hnc : n ≤ c) :
    Calls Tryd.prog 19 #[.int .i64 sh, .slice A n c, .agg #[.int .i64 o.kind, .int .i64 o.key]] w fun e w' =>
      e = .returned (.agg #[.int .i64 (refRes sh ops o).code, .bool (refRes sh ops o).ok, .int .i64 (refRes sh ops o).val]) ∧ Below w.heap.size w w' := by
  obtain ⟨kind, key⟩ := o
  have hk0 : Below w.heap.size w ((w.alloc (.cells #[.int .i64 kind, .int .i64 key] 43)).alloc (.cells #[.int .i64 0, .bool false, .int .i64 0] 50)) := ((Below.refl _ _).alloc (Nat.le_refl _) _).alloc (by simp) _
  have hx := (Blk.new w 43 #[.int .i64 kind, .int .i64 key]).alloc (.cells #[.int .i64 0, .bool false, .int .i64 0] 50)
  have hy := Blk.newAt (w.alloc (.cells #[.int .i64 kind, .int .i64 key] 43)) 50 #[.int .i64 0, .bool false, .int .i64 0] (g := w.heap.size + 1) (by simp)
  have hs0 := hs.step hB hk0
  have hBW : B ≤ ((w.alloc (.cells #[.int .i64 kind, .int .i64 key] 43)).alloc (.cells #[.int .i64 0, .bool false, .int .i64 0] 50)).heap.size := by simp; omega
  have hin := ref_In (c := c) key hs0 hel hn
  have hit := ref_Items (c := c) sh hs0 hBW hel hn hnc
  have HI := Lib.hid hin
  have HT := Lib.hid hit
  have HR : Hid (refRes sh ops ⟨kind, key⟩ = if kind = 1 then .yes (!inS ops key) else if kind = 2 ∨ kind = 3 then .yes (inS ops key) else if kind = 4 then .yes true else match refItems sh ops with
    | [] => .none_
    | x :: _ => ⟨0, true, x⟩) := rfl
  have fin : ∀ (w1 : World) (x y z : Value), Blk w1 (w.heap.size + 1) 50 #[.int .i64 0, .bool false, .int .i64 0] → Below w.heap.size w w1 →
      Blk (((w1.setCell ⟨w.heap.size + 1, 0, none⟩ x).setCell ⟨w.heap.size + 1, 1, none⟩ y).setCell ⟨w.heap.size + 1, 2, none⟩ z) (w.heap.size + 1) 50 #[x, y, z] ∧
      Below w.heap.size w (((w1.setCell ⟨w.heap.size + 1, 0, none⟩ x).setCell ⟨w.heap.size + 1, 1, none⟩ y).setCell ⟨w.heap.size + 1, 2, none⟩ z) := fun w1 x y z hb hbl =>
    ⟨(set3 hb x y z).1, ((hbl.setCell (p := ⟨w.heap.size + 1, 0, none⟩) (by simp) x).setCell (p := ⟨w.heap.size + 1, 1, none⟩) (by simp) y).setCell (p := ⟨w.heap.size + 1, 2, none⟩) (by simp) z⟩
  have HFIN := Lib.hid fin
  clear hin hit hs0 hs hel fin
  generalize hW : ((w.alloc (.cells #[.int .i64 kind, .int .i64 key] 43)).alloc (.cells #[.int .i64 0, .bool false, .int .i64 0] 50)) = W at *
  have hWs : w.heap.size + 1 < W.heap.size := by rw [← hW]; simp
  have HW := Lib.hid hW
  clear hW
  by_cases h1 : kind = 1
  · subst h1
    have hr := Lib.hid (show refRes sh ops ⟨1, key⟩ = ⟨0, !inS ops key, 0⟩ by rw [HR.out, if_pos rfl]; rfl)
    rw [hr.out]
    generalize inS ops key = b at *
    go_enter Tryd.func19, Tryd.ntmps19
    go_upto_region 1 with (fail)
    rw [HW.out]
    have cx := hx.cells
    go_wp2_with fail
    refine HI.out.mono ?_
    rintro e w' ⟨rfl, rfl⟩
    obtain ⟨b1, b2⟩ := HFIN.out W (.int .i64 0) (.bool !b) (.int .i64 0) hy hk0
    have f0 := hy.frozen 0
    have f1 := hy.frozen 1
    have f2 := hy.frozen 2
    have cy := hy.cells
    have hc' := b1.cells
    clear b1 hx hy
    go_wp2_with fail
    generalize (((W.setCell ⟨w.heap.size + 1, 0, none⟩ (.int .i64 0)).setCell ⟨w.heap.size + 1, 1, none⟩ (.bool !b)).setCell ⟨w.heap.size + 1, 2, none⟩ (.int .i64 0)) = W2 at *
    exact bodyPost_ret (v := .agg #[.int .i64 0, .bool !b, .int .i64 0]) (by simp [results, Tryd.results19, go_sem, hc']) rfl ⟨rfl, b2⟩
  · have e1 : (kind == 1) = false := by simpa using h1
    by_cases h23 : kind = 2 ∨ kind = 3
    · have hr := Lib.hid (show refRes sh ops ⟨kind, key⟩ = ⟨0, inS ops key, 0⟩ by rw [HR.out, if_neg h1, if_pos h23]; rfl)
      rw [hr.out]
      generalize inS ops key = b at *
      clear h1 hr HR
      rcases h23 with rfl | rfl
      all_goals
        go_enter Tryd.func19, Tryd.ntmps19
        go_upto_region 1 with (fail)
        rw [HW.out]
        have cx := hx.cells
        go_wp2_with fail
        refine HI.out.mono ?_
        rintro e w' ⟨rfl, rfl⟩
        obtain ⟨b1, b2⟩ := HFIN.out W (.int .i64 0) (.bool b) (.int .i64 0) hy hk0
        have f0 := hy.frozen 0
        have f1 := hy.frozen 1
        have f2 := hy.frozen 2
        have cy := hy.cells
        have hc' := b1.cells
        clear b1 hx hy
        go_wp2_with fail
        generalize (((W.setCell ⟨w.heap.size + 1, 0, none⟩ (.int .i64 0)).setCell ⟨w.heap.size + 1, 1, none⟩ (.bool b)).setCell ⟨w.heap.size + 1, 2, none⟩ (.int .i64 0)) = W2 at *
        exact bodyPost_ret (v := .agg #[.int .i64 0, .bool b, .int .i64 0]) (by simp [results, Tryd.results19, go_sem, hc']) rfl ⟨rfl, b2⟩
    · have e2 : (kind == 2) = false := by simp; omega
      have e3 : (kind == 3) = false := by simp; omega
      by_cases h4 : kind = 4
      · have hr := Lib.hid (show refRes sh ops ⟨kind, key⟩ = ⟨0, true, 0⟩ by rw [HR.out, if_neg h1, if_neg h23, if_pos h4]; rfl)
        rw [hr.out]
        subst h4
        clear hr HR h1 h23 e1 e2 e3
        go_enter Tryd.func19, Tryd.ntmps19
        go_upto_region 1 with (fail)
        rw [HW.out]
        have cx := hx.cells
        obtain ⟨b1, b2⟩ := HFIN.out W (.int .i64 0) (.bool true) (.int .i64 0) hy hk0
        have f0 := hy.frozen 0
        have f1 := hy.frozen 1
        have f2 := hy.frozen 2
        have cy := hy.cells
        have hc' := b1.cells
        clear b1 hx hy
        go_wp2_with fail
        generalize (((W.setCell ⟨w.heap.size + 1, 0, none⟩ (.int .i64 0)).setCell ⟨w.heap.size + 1, 1, none⟩ (.bool true)).setCell ⟨w.heap.size + 1, 2, none⟩ (.int .i64 0)) = W2 at *
        exact bodyPost_ret (v := .agg #[.int .i64 0, .bool true, .int .i64 0]) (by simp [results, Tryd.results19, go_sem, hc']) rfl ⟨rfl, b2⟩
      · have e4 : (kind == 4) = false := by simpa using h4
        have hr : refRes sh ops ⟨kind, key⟩ = match refItems sh ops with
          | [] => .none_
          | x :: _ => ⟨0, true, x⟩ := by rw [HR.out, if_neg h1, if_neg h23, if_neg h4]
        clear HR h1 h23 h4
        cases hL : refItems sh ops with
        | nil =>
          rw [hL] at hr
          have hr' := Lib.hid (show refRes sh ops ⟨kind, key⟩ = ⟨0, false, 0⟩ by rw [hr]; rfl)
          rw [hr'.out]
          rw [hL] at HT
          clear hr hr' hL
          go_enter Tryd.func19, Tryd.ntmps19
          go_upto_region 1 with (fail)
          rw [HW.out]
          have cx := hx.cells
          go_wp2_with fail
          refine HT.out.mono ?_
          rintro e w1 ⟨v, rfl, ⟨A1, c1, rfl, -, -⟩, hb1⟩
          have hy := hy.step hb1
          have hk0 := hk0.trans (hb1.mono (by omega))
          have hs1 := hb1.size
          clear cx
          obtain ⟨b1, b2⟩ := HFIN.out w1 (.int .i64 0) (.bool false) (.int .i64 0) hy hk0
          have f0 := hy.frozen 0
          have f1 := hy.frozen 1
          have f2 := hy.frozen 2
          have cy := hy.cells
          have hc' := b1.cells
          clear b1 hx hy
          go_wp2_with fail
          generalize (((w1.setCell ⟨w.heap.size + 1, 0, none⟩ (.int .i64 0)).setCell ⟨w.heap.size + 1, 1, none⟩ (.bool false)).setCell ⟨w.heap.size + 1, 2, none⟩ (.int .i64 0)) = W2 at *
          exact bodyPost_ret (v := .agg #[.int .i64 0, .bool false, .int .i64 0]) (by simp [results, Tryd.results19, go_sem, hc']) rfl ⟨rfl, b2⟩
        | cons x l =>
          rw [hL] at hr
          have hr' := Lib.hid (show refRes sh ops ⟨kind, key⟩ = ⟨0, true, x⟩ by rw [hr])
          rw [hr'.out]
          rw [hL] at HT
          clear hr hr' hL
          go_enter Tryd.func19, Tryd.ntmps19
          go_upto_region 1 with (fail)
          rw [HW.out]
          have cx := hx.cells
          go_wp2_with fail
          refine HT.out.mono ?_
          rintro e w1 ⟨v, rfl, ⟨A1, c1, rfl, -, hsl⟩, hb1⟩
          have hy := hy.step hb1
          have hk0 := hk0.trans (hb1.mono (by omega))
          have hs1 := hb1.size
          have hx0 := RowI.at_ (k := 0) (x := x) hsl (by simp) rfl
          have hidx := hsl.idx (P := Tryd.prog) (c := c1) Tryd.underlying29 intSz (k := 0) (by simp)
          have hlp : 0 < (x :: l).length := by simp
          simp only [Nat.zero_mul, Nat.add_zero, Int.natCast_zero] at hx0 hidx
          generalize (x :: l).length = L at *
          have hl0 : ((L : Int) == 0) = false := by simp; omega
          clear cx hsl
          obtain ⟨b1, b2⟩ := HFIN.out w1 (.int .i64 0) (.bool true) (.int .i64 x) hy hk0
          have f0 := hy.frozen 0
          have f1 := hy.frozen 1
          have f2 := hy.frozen 2
          have cy := hy.cells
          have hc' := b1.cells
          clear b1 hx hy
          go_wp2_with fail
          generalize (((w1.setCell ⟨w.heap.size + 1, 0, none⟩ (.int .i64 0)).setCell ⟨w.heap.size + 1, 1, none⟩ (.bool true)).setCell ⟨w.heap.size + 1, 2, none⟩ (.int .i64 x)) = W2 at *
          exact bodyPost_ret (v := .agg #[.int .i64 0, .bool true, .int .i64 x]) (by simp [results, Tryd.results19, go_sem, hc']) rfl ⟨rfl, b2⟩

set_option maxRecDepth 100000 in
set_option maxHeartbeats 3200000 in
theorem ref_Ints (l m : List Int) (A1 A2 : Option Addr) (n1 n2 c1 c2 : Nat) (h1 : Sl w B 1 A1 n1 (ints l)) (h2 : Sl w B 1 A2 n2 (ints m)) (hB : B ≤ w.heap.size) (hn1 : n1 ≤ 100000) (hn2 : n2 ≤ 100000) :
    Calls Tryd.prog 14 #[.slice A1 n1 c1, .slice A2 n2 c2] w fun e w' => e = .returned (.bool (l == m)) ∧ Below w.heap.size w w' := by
  have hl1 : l.length = n1 := by have := h1.len; rw [ints_len] at this; omega
  have hl2 : m.length = n2 := by have := h2.len; rw [ints_len] at this; omega
  by_cases hne : n1 = n2
  · subst hne
    have hkey : Hid ((l == m) = decide (∀ j, j < n1 → l[j]? = m[j]?)) := by
      show (l == m) = _
      rw [Bool.eq_iff_iff, beq_iff_eq, decide_eq_true_eq]
      refine ⟨fun h j _ => by rw [h], fun h => ?_⟩
      apply List.ext_getElem?
      intro j
      by_cases hj : j < n1
      · exact h j hj
      · rw [List.getElem?_eq_none (by omega), List.getElem?_eq_none (by omega)]
    have HL1 := Lib.hid hl1
    have HL2 := Lib.hid hl2
    clear hl1 hl2
    go_enter Tryd.func14, Tryd.ntmps14
    go_wp2_with fail
    go_loopw [5] (fun i wr => ∃ k : Nat, k ≤ n1 ∧ i = .int .i64 k ∧ Hid (∀ j, j < k → l[j]? = m[j]?) ∧ Below w.heap.size w wr) (fun i _ => n1 - (intOf i).toNat)
    case atStart => exact ⟨0, by omega, rfl, fun j hj => absurd hj (by omega), Below.refl _ _⟩
    case round =>
      obtain ⟨k, hk, rfl, hall, hb⟩ := hrel
      by_cases hlt : k < n1
      · have dk : decide ((k : Int) < (n1 : Int)) = true := by simp; omega
        obtain ⟨x, hx⟩ : ∃ x, l[k]? = some x := ⟨_, List.getElem?_eq_getElem (by rw [HL1.out]; exact hlt)⟩
        obtain ⟨y, hy⟩ : ∃ y, m[k]? = some y := ⟨_, List.getElem?_eq_getElem (by rw [HL2.out]; exact hlt)⟩
        have h1' := h1.step hB hb
        have h2' := h2.step hB hb
        have hbs := hb.size
        have g1 := Later.cell (B := wr.heap.size) (RowI.at_ h1' hlt hx) (by have := h1'.blt (by omega); omega)
        have g2 := Later.cell (B := wr.heap.size) (RowI.at_ h2' hlt hy) (by have := h2'.blt (by omega); omega)
        clear h1' h2'
        have i1 := h1.idx (P := Tryd.prog) (c := c1) Tryd.underlying29 intSz hlt
        have i2 := h2.idx (P := Tryd.prog) (c := c2) Tryd.underlying29 intSz hlt
        simp only [Nat.mul_one] at g1 g2 i1 i2
        have i1' := fun q : Later wr.heap.size wr => i1 q.val
        have i2' := fun q : Later wr.heap.size wr => i2 q.val
        have HX := Lib.hid hx
        have HY := Lib.hid hy
        clear hx hy
        by_cases hxy : x = y
        · subst hxy
          have hall' := Lib.hid (show ∀ j, j < k + 1 → l[j]? = m[j]? from fun j hj => by
            by_cases e : j = k
            · subst e; rw [HX.out, HY.out]
            · exact hall.out j (by omega))
          clear hall
          go_wp2_with fail
          refine wp_region_later wr.heap.size (by kernel_rfl) (by kernel_rfl) ?_
          repeat (go_big_quiet_step (fail))
          refine wpQuiet_nil ?_
          intro w12 hq
          obtain ⟨qq, hq⟩ := hq
          have hb12 : Below wr.heap.size wr w12 := by rw [hq]; exact qq.below
          clear hq qq g1 g2 i1 i2 i1' i2'
          go_wp2
          go_roundw
          case rel => exact ⟨k + 1, by omega, by go_num, hall', hb.trans (hb12.mono hbs)⟩
          case measure => simp [intOf] <;> omega
        · have hxb : (x != y) = true := by simpa using hxy
          have hf := Lib.hid (show (l == m) = false by
            rw [hkey.out, decide_eq_false]
            intro hh
            have := hh k hlt
            rw [HX.out, HY.out] at this
            exact hxy (by simpa using this))
          clear hxy hall
          go_wp2_with fail
          refine wp_region_later wr.heap.size (by kernel_rfl) (by kernel_rfl) ?_
          repeat (go_big_quiet_step (fail))
          refine wpQuiet_nil ?_
          intro w12 hq
          obtain ⟨qq, hq⟩ := hq
          have hb12 : Below wr.heap.size wr w12 := by rw [hq]; exact qq.below
          clear hq qq g1 g2 i1 i2 i1' i2'
          go_wp2
          go_ret
          exact ⟨ret_b hf.out.symm, hb.trans (hb12.mono hbs)⟩
      · have dk : decide ((k : Int) < (n1 : Int)) = false := by simp; omega
        have hf := Lib.hid (show (l == m) = true by
          rw [hkey.out, decide_eq_true_eq]
          intro j hj
          exact hall.out j (by omega))
        clear hall
        go_wp2_with fail
        go_ret
        exact ⟨ret_b hf.out.symm, hb⟩
  · have hb : ((n1 : Int) != (n2 : Int)) = true := by simp; omega
    have hf := Lib.hid (show (l == m) = false by
      rw [beq_eq_false_iff_ne]
      intro h
      rw [h] at hl1
      omega)
    clear hne hl1 hl2
    go_enter Tryd.func14, Tryd.ntmps14
    go_wp2_with fail
    go_ret
    exact ⟨ret_b hf.out.symm, Below.refl _ _⟩
end
end Go.Proofs.YtboommppikfgnaaDoor
