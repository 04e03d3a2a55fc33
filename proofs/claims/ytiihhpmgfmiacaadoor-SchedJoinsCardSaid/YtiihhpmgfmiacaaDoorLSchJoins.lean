/- The law SchedJoins, walked.
   Conditions: the cell of internal/bytealg.MaxLen holds an int; the table of powers of ten lies as laid. -/
import Derived.Test.YtiihhpmgfmiacaaDoorSchAwake
import Derived.Test.YtiihhpmgfmiacaaDoorRangeAt
namespace Go.Proofs.YtiihhpmgfmiacaaDoor
open Go Go.RowKit Go.Shelf
attribute [local go_sem] Oper.semAt_some

theorem cells_one_pk (ps : List Pk) : ∀ u ∈ ps.flatMap Pk.cells, u.oneCell' = true := by
  intro u hu
  obtain ⟨p, -, h⟩ := List.mem_flatMap.1 hu
  exact Pk.cells_one p u h

set_option maxRecDepth 100000 in
set_option maxHeartbeats 8000000 in
theorem law_SchedJoins (A B : Option Addr) (la lb ca cb : Nat) (pa pb : List Pk) (m : Int) (w : World) (hsa : Sl w w.heap.size 2 A la (pa.flatMap Pk.cells)) (hsb : Sl w w.heap.size 2 B lb (pb.flatMap Pk.cells)) (hna : pa.length = la) (hnb : pb.length = lb) (hm : w.cell? ⟨0, 0, none⟩ = some (.int .i64 m)) (htab : ∀ w', Below w.heap.size w w' → Lib.TabIs Tryd.prog w' "internal/strconv.uint64pow10" .u64 Lib.pow10Tab) :
    Calls Tryd.prog 8 #[.slice A la ca, .slice B lb cb] w fun e w' => e = .returned (.bool true) ∧ Below w.heap.size w w' := by
  obtain ⟨iP, hiP, zP, sP, bP⟩ := info_parts info_i64
  obtain ⟨iK, hiK, zK, sK, bK⟩ := info_parts (e := 33) (P := Tryd.prog) (z := .agg #[.int .i64 0, .int .i64 0]) (size := 2) (bytes := 16) (by kernel_rfl)
  have hba : Below w.heap.size w (w.alloc (.cells #[.bool false] 4)) := (Below.refl _ _).alloc (Nat.le_refl _) _
  have HAW := Lib.hid (law_awake m (w.alloc (.cells #[.bool false] 4)) (cell_keep hba hm) (fun w' hb' => htab w' (hba.trans (hb'.mono hba.size))))
  have hbr : Blk (w.alloc (.cells #[.bool false] 4)) w.heap.size 4 #[.bool false] := Blk.new w _ _
  have HNA := Lib.hid hna
  have HNB := Lib.hid hnb
  clear hm htab hna hnb
  refine (callsIn_wide (n := 3)).1 ?_
  refine callsIn_of_wp_marks Tryd.func8 rfl trivial ?_ rfl
  refine wpIn_wide.2 ?_
  simp only [Tryd.ntmps8, List.size_toArray, List.length_cons, List.length_nil, Nat.reduceAdd, Nat.reduceSub, Array.replicate_succ, Array.replicate_zero, List.push_toArray, List.append_toArray, List.nil_append, List.cons_append]
  by_cases hbig : 30 < la ∨ 30 < lb
  · have hd : (30 : Int) < (la : Int) ∨ (¬ (30 : Int) < (la : Int) ∧ (30 : Int) < (lb : Int)) := by omega
    rcases hd with d | ⟨d, d2⟩
    all_goals
      go_wp2_with fail
      refine HAW.out.mono ?_
      rintro e w1 ⟨rfl, hb1⟩
      have hbr1 := hbr.step hb1
      have hc1 := hbr1.cells
      have hf1 := hbr1.frees
      go_wp2_with fail
      refine ⟨.bool true, by simp [results, Tryd.results8, go_sem, (hbr1.set_ 0 (.bool true)).cells], rfl, (hba.trans (hb1.mono hba.size)).setCell (p := ⟨w.heap.size, 0, none⟩) (by simp) _⟩
  · have d : ¬ (30 : Int) < (la : Int) := by omega
    have d2 : ¬ (30 : Int) < (lb : Int) := by omega
    go_wp2_with fail
    refine HAW.out.mono ?_
    rintro e w1 ⟨rfl, hb1⟩
    have hbr1 := hbr.step hb1
    have hb01 := hba.trans (hb1.mono hba.size)
    have hsa1 := (hsa.step (Nat.le_refl _) hb01).more hb01.size
    have hsb1 := (hsb.step (Nat.le_refl _) hb01).more hb01.size
    obtain ⟨br, hbre⟩ : ∃ br, w.heap.size = br := ⟨_, rfl⟩
    obtain ⟨n5, hn5⟩ : ∃ n5, w1.heap.size = n5 := ⟨_, rfl⟩
    have hn51 : n5 ≤ w1.heap.size := by omega
    have hbrlt : br < n5 := by rw [← hbre, ← hn5]; exact hbr1.lt
    rw [hn5] at hsa1 hsb1
    go_upto_region 6 with (fail)
    rw [hbre] at hbr1
    have bw2 : Blk (w1.alloc (.cells #[.slice none 0 0] 39)) n5 39 #[.slice none 0 0] := by rw [← hn5]; exact Blk.new w1 _ _
    have hb12 : Below n5 w1 (w1.alloc (.cells #[.slice none 0 0] 39)) := (Below.refl _ _).alloc hn51 _
    have hsz2 : (w1.alloc (.cells #[.slice none 0 0] 39)).heap.size = n5 + 1 := by simp [hn5]
    generalize (w1.alloc (.cells #[.slice none 0 0] 39)) = w2 at *
    have hall := (callsIn_wide (n := 2)).1 (all_in Fence.wide 2 trivial rfl A la ca w2)
    have J2 : Jo n5 w1 [] w2 := ⟨hb12, _, bw2, World.ownsRow_nil _ _ _ _⟩
    rw [hsz2] at hall
    have HSZ2 := Lib.hid hsz2
    clear hsz2
    go_wp2_with fail
    refine hall.mono ?_
    rintro e w3 ⟨rfl, hw3⟩
    have cs3 : Blk w3 (n5 + 1) 23 #[.slice A la ca] := by rw [hw3]; exact Blk.newAt _ _ _ HSZ2.out.symm
    have J3 : Jo n5 w1 [] w3 := by rw [hw3]; exact J2.grown (World.grownBy_alloc _ _ none) (fun r e => by cases e)
    have hsz3 : w3.heap.size = n5 + 2 := by rw [hw3]; simp [HSZ2.out]
    clear hw3 hall J2 bw2 hb12
    have HSZ3 := Lib.hid hsz3
    have hn3 : n5 ≤ w3.heap.size := by omega
    clear hsz3
    go_wp2_with fail
    refine (wpIn_wide (n := 3)).1 ?_
    refine range_at 23 6 rfl (by omega) (gf := 30) (lb := #[.pointer (some ⟨n5 + 1, 0, none⟩)]) rfl trivial (enters_of Tryd.func30 (by kernel_rfl) rfl)
      (all_stops Fence.wide (3 - 1) trivial rfl (by omega) (n5 + 1) n5 la ca A pa w3 cs3.lt hn3 (cs3.cell 0) (hsa1.below J3.below) HNA.out (by omega)) (fun h k => h.trans k) (pkKeep_b hn3) rfl
      (fun pre W => Jo n5 w1 pre W) (fun _ _ _ => False)
      (fun s X Y row J hg hr => J.grown hg (fun r e => ⟨by have := (hr r e).1; have := HSZ3.out; omega, (hr r e).2⟩)) (fun _ _ _ _ _ h _ _ => h.elim) J3 ?assign ?body ?done ?stop
    case assign =>
      intro l x W K hK
      gi_wp2
      exact hK
    case body =>
      rintro l pre x W J hlen
      obtain ⟨v, bw, ho⟩ := J.row
      have hW := J.below.size
      have hlt := bw.lt
      have hcw := bw.cells
      have ho4 := ho.alloc (.cells #[.int .i64 x] 3)
      simp only [List.setIfInBounds_toArray, List.set_cons_succ, List.set_cons_zero]
      gi_wp2_with (gi_at_builtin; refine wpListIn_append_own_at _ rfl _ _ _ rfl (n5 + 1) 3 iP _ 1 8 Tryd.underlying39 hiP zP sP bP rfl (by omega) v pre.length (pre.map intV) rfl ho4 ⟨W.heap.size, 0, none⟩ 1 1 [.int .i64 x] rfl rfl (World.news_of_block (heap_alloc_new W _)) (by simp [Value.oneCell']) (by unfold maxLen; omega) (by omega) (by simp; omega) ?_; intro v9 w9 hown9 hgrow hnil hat; obtain ⟨A9, c9, rfl, -, -, -⟩ := own_form hown9; have b9 := (bw.alloc (.cells #[.int .i64 x] 3)).grown hgrow (fun e => by have := (own_at ho _ e).1; omega); have hc9 := b9.cells; have hf9 := b9.frees)
      have hown9' : w9.ownsRow (n5 + 1) 3 1 (.slice A9 (pre.length + 1) c9) (pre ++ [x]).length ((pre ++ [x]).map intV) := by simpa [intV] using hown9
      obtain ⟨J', ko, pk⟩ := jo_app J.below bw ho hgrow hown9'
      exact ⟨ko.from _, pk, J'⟩
    case done =>
      rintro D1 ys W hD1 hys J hK1
      have hD1n : n5 + 2 ≤ D1 := by have := HSZ3.out; omega
      have hLA : ys.length ≤ 60000 := by rw [hys]; exact allSize _ _
      have HYS := Lib.hid hys
      have hD1l := lt_size hK1
      clear cs3 J3 hn3 hys hD1
      have HSZ4 : Hid (∃ s4, W.heap.size = s4) := Lib.hid ⟨_, rfl⟩
      obtain ⟨s4, hs4⟩ := HSZ4.out
      have hallb := (callsIn_wide (n := 2)).1 (all_in Fence.wide 2 trivial rfl B lb cb W)
      rw [hs4] at hallb
      have HS4 := Lib.hid hs4
      clear hs4 HSZ4
      go_wp2_with fail
      refine hallb.mono ?_
      rintro e w5 ⟨rfl, hw5⟩
      have hJl := J.below.size
      have cs5 : Blk w5 s4 23 #[.slice B lb cb] := by rw [hw5]; exact Blk.newAt _ _ _ HS4.out.symm
      have J5 : Jo n5 w1 ys w5 := by rw [hw5]; exact J.grown (World.grownBy_alloc _ _ none) (fun r e => by cases e)
      have hK5 : w5.heap[D1]? = some (.deferred (some [])) := by rw [hw5]; exact (Below.heap_alloc W _ D1 hD1l).trans hK1
      have hsz5 : w5.heap.size = s4 + 1 := by rw [hw5]; simp [HS4.out]
      have hs4g : n5 + 2 ≤ s4 ∧ D1 < s4 := by have := HS4.out; omega
      clear hw5 hallb J hK1 hD1l
      have hn5' : n5 ≤ w5.heap.size := by omega
      have HSZ5 := Lib.hid hsz5
      clear hsz5 hJl
      go_wp2_with fail
      refine (wpIn_wide (n := 3)).1 ?_
      refine range_at 30 7 rfl (by omega) (gf := 30) (lb := #[.pointer (some ⟨s4, 0, none⟩)]) rfl trivial (enters_of Tryd.func30 (by kernel_rfl) rfl)
        (all_stops Fence.wide (3 - 1) trivial rfl (by omega) s4 n5 lb cb B pb w5 cs5.lt hn5' (cs5.cell 0) (hsb1.below J5.below) HNB.out (by omega)) (fun h k => h.trans k) (pkKeep_b hn5') rfl
        (fun pre W => Jo n5 w1 ((ys ++ pre).take 60000) W ∧ W.heap[D1]? = some (.deferred (some []))) (fun _ _ _ => False)
        (fun s X Y row ⟨J, hd⟩ hg hr => ⟨J.grown hg (fun r e => ⟨by have := (hr r e).1; have := HSZ5.out; omega, (hr r e).2⟩), (hg.block D1 (lt_size hd) (fun e => by have := (hr D1 e.symm).1; have := HSZ5.out; omega)).trans hd⟩) (fun _ _ _ _ _ h _ _ => h.elim)
        ⟨by rw [List.append_nil, List.take_of_length_le hLA]; exact J5, hK5⟩ ?assign2 ?body2 ?done2 ?stop2
      case assign2 =>
        intro l x W K hK
        gi_wp2
        exact hK
      case stop2 =>
        rintro D c pre W _ _ h _
        exact h.elim
      case body2 =>
        rintro l pre x W ⟨J, hd⟩ hlen
        obtain ⟨v, bw, ho⟩ := J.row
        have hmore := take_more (ys ++ pre) x 60000
        rw [List.append_assoc] at hmore
        have hzl : ((ys ++ pre).take 60000).length = min 60000 (ys ++ pre).length := List.length_take
        have hW := J.below.size
        have hlt := bw.lt
        obtain ⟨Av, cv, rfl, -, -, -⟩ := own_form ho
        have hcw := bw.cells
        simp only [List.setIfInBounds_toArray, List.set_cons_succ, List.set_cons_zero]
        by_cases hl : (ys ++ pre).length < 60000
        · rw [if_pos hl] at hmore
          have HMO := Lib.hid hmore
          obtain ⟨zs, hzs⟩ : ∃ zs, (ys ++ pre).take 60000 = zs := ⟨_, rfl⟩
          rw [hzs] at J HMO hzl ho bw hcw
          have hz6 : (zs.length : Int) < 60000 := by omega
          have hz6n : zs.length < 60000 := by omega
          have ho4 := ho.alloc (.cells #[.int .i64 x] 3)
          clear hzs hmore hl hzl
          gi_wp2_with (gi_at_builtin; refine wpListIn_append_own_at _ rfl _ _ _ rfl (n5 + 1) 3 iP _ 1 8 Tryd.underlying39 hiP zP sP bP rfl (by omega) (.slice Av zs.length cv) zs.length (zs.map intV) rfl ho4 ⟨W.heap.size, 0, none⟩ 1 1 [.int .i64 x] rfl rfl (World.news_of_block (heap_alloc_new W _)) (by simp [Value.oneCell']) (by unfold maxLen; omega) (by omega) (by simp; omega) ?_; intro v9 w9 hown9 hgrow hnil hat; obtain ⟨A9, c9, rfl, -, -, -⟩ := own_form hown9; have b9 := (bw.alloc (.cells #[.int .i64 x] 3)).grown hgrow (fun e => by have := (own_at ho _ e).1; omega); have hc9 := b9.cells; have hf9 := b9.frees)
          have hown9' : w9.ownsRow (n5 + 1) 3 1 (.slice A9 (zs.length + 1) c9) (zs ++ [x]).length ((zs ++ [x]).map intV) := by simpa [intV] using hown9
          obtain ⟨J', ko, pk⟩ := jo_app J.below bw ho hgrow hown9'
          exact ⟨ko.from _, pk, by rw [HMO.out]; exact J', ko.same D1 _ hd rfl⟩
        · rw [if_neg hl] at hmore
          have HMO := Lib.hid hmore
          obtain ⟨zs, hzs⟩ : ∃ zs, (ys ++ pre).take 60000 = zs := ⟨_, rfl⟩
          rw [hzs] at J HMO hzl
          have hz6 : ¬ (zs.length : Int) < 60000 := by omega
          rw [hzs] at hcw
          clear hmore hl hzl ho bw hzs
          gi_wp2
          exact ⟨KeepsFrom.refl _ _, ⟨Below.refl _ _, fun _ _ h => h⟩, by rw [HMO.out]; exact J, hd⟩
      case done2 =>
        rintro D2 zs W2 hD2 hzs ⟨J, hd1⟩ hK2
        have hL : (ys ++ zs).take 60000 = allL (pa ++ pb) := by rw [allL_join, HYS.out, hzs]
        have hLl : ((ys ++ zs).take 60000).length = min 60000 (ys.length + zs.length) := by rw [List.length_take, List.length_append]
        obtain ⟨L, hLe⟩ : ∃ L, (ys ++ zs).take 60000 = L := ⟨_, rfl⟩
        rw [hLe] at J hL hLl
        have HL := Lib.hid hL
        have HLL := Lib.hid hLl
        have HZS := Lib.hid hzs
        obtain ⟨s8, hs8⟩ : ∃ s8, W2.heap.size = s8 := ⟨_, rfl⟩
        have hs8g : n5 + 2 ≤ s8 ∧ D1 < s8 ∧ D2 < s8 := ⟨by have := lt_size hK2; have := HSZ5.out; omega, by have := lt_size hd1; omega, by have := lt_size hK2; omega⟩
        have hz0 := own_zero (base := s8) (g := s8) W2 33 2 (by omega) hs8.symm
        have hsa8 := (hsa1.below J.below).more (show n5 ≤ s8 by omega)
        have hsb8 := (hsb1.below J.below).more (show n5 ≤ s8 by omega)
        have hb8z : Below s8 W2 (W2.alloc (.cells #[] 33)) := (Below.refl _ _).alloc (by omega) _
        have hsz8 : (W2.alloc (.cells #[] 33)).heap.size = s8 + 1 := by simp [hs8]
        have hsa9 := hsa8.below hb8z
        clear hL hLl hzs hLe
        go_wp2_with (first | (at_builtin; refine wpList_append_sl _ rfl _ _ _ rfl s8 33 iK _ 2 16 Tryd.underlying23 hiK zK sK bK rfl (by omega) (.slice (some ⟨s8, 0, none⟩) 0 0) 0 [] rfl hz0 s8 A la ca (pa.flatMap Pk.cells) rfl hsa9 (cells_one_pk pa) (by unfold maxLen; omega) (by omega) (by omega) ?_; intro v6 w6 hown6 hg6 hat6; have hb86 := hb8z.grown hg6 (by omega) (fun g e => by have := (own_at hz0 g e).1; omega); have hsb6 := hsb8.below hb86) | (at_builtin; refine wpList_append_sl _ rfl _ _ _ rfl s8 33 iK _ 2 16 Tryd.underlying23 hiK zK sK bK rfl (by omega) v6 (0 + la) ([] ++ pa.flatMap Pk.cells) rfl hown6 s8 B lb cb (pb.flatMap Pk.cells) rfl hsb6 (cells_one_pk pb) (by unfold maxLen; omega) (by omega) (by have := hb86.size; omega) ?_; intro v7 w7 hown7 hg7 hat7))
        rw [Nat.zero_add, List.nil_append, ← List.flatMap_append] at hown7
        obtain ⟨A8, c8, rfl, -, -, -⟩ := own_form hown7
        have hs87 := Sl.of_own hown7
        have hb87 : Below s8 W2 w7 := hb86.grown hg7 (by have := hb86.size; omega) (fun g e => (own_at hown6 g e).1)
        have J7 := J.step (by rw [hs8]; exact hb87)
        have hd17 := (hb87.block D1 hs8g.2.1).trans hd1
        have hd27 := (hb87.block D2 hs8g.2.2).trans hK2
        have hsa7 := hsa8.below hb87
        have hsb7 := hsb8.below hb87
        obtain ⟨n8, hn8⟩ : ∃ n8, w7.heap.size = n8 := ⟨_, rfl⟩
        have hn8g : s8 ≤ n8 := by have := hb87.size; omega
        clear hown7 hown6 hg7 hg6 hat7 hat6 hb86 hsb6 hsa9 hz0 hb8z hsz8 J hd1 hK2 hb87 hsa8 hsb8 hs8
        rw [hn8] at hs87 ⊢
        have bt8 : Blk (w7.alloc (.cells #[.int .i64 0] 3)) n8 3 #[.int .i64 0] := Blk.newAt _ _ _ hn8.symm
        have hb78 : Below n8 w7 (w7.alloc (.cells #[.int .i64 0] 3)) := (Below.refl _ _).alloc (by omega) _
        have hsz8 : (w7.alloc (.cells #[.int .i64 0] 3)).heap.size = n8 + 1 := by simp [hn8]
        generalize (w7.alloc (.cells #[.int .i64 0] 3)) = w8 at *
        have hallc := (callsIn_wide (n := 2)).1 (all_in Fence.wide 2 trivial rfl A8 (la + lb) c8 w8)
        rw [hsz8] at hallc
        refine hallc.mono ?_
        rintro e w10 ⟨rfl, hw10⟩
        have cs10 : Blk w10 (n8 + 1) 23 #[.slice A8 (la + lb) c8] := by rw [hw10]; exact Blk.newAt _ _ _ hsz8.symm
        have bt10 : Blk w10 n8 3 #[.int .i64 0] := by rw [hw10]; exact bt8.alloc _
        have hb710 : Below n8 w7 w10 := by rw [hw10]; exact hb78.alloc (by omega) _
        have hsz10 : w10.heap.size = n8 + 2 := by rw [hw10]; simp [hsz8]
        have hlen8 : (pa ++ pb).length = la + lb := by rw [List.length_append, HNA.out, HNB.out]
        have HL8 := Lib.hid hlen8
        have HSZ10 := Lib.hid hsz10
        have hn10 : n8 ≤ w10.heap.size := by omega
        obtain ⟨vw, bw7, hw7⟩ := J7.row
        obtain ⟨Aw, cw, rfl, -, -, -⟩ := own_form hw7
        have hsw7 := Sl.of_own hw7
        rw [hn8] at hsw7
        have hb17 := J7.below
        have HN8 := Lib.hid hn8
        clear hallc hw10 bt8 hb78 hsz8 hsz10 hw7 J7 hlen8 hn8
        go_wp2_with fail
        refine (wpIn_wide (n := 3)).1 ?_
        refine range_at 45 10 rfl (by omega) (gf := 30) (lb := #[.pointer (some ⟨n8 + 1, 0, none⟩)]) rfl trivial (enters_of Tryd.func30 (by kernel_rfl) rfl)
          (all_stops Fence.wide (3 - 1) trivial rfl (by omega) (n8 + 1) n8 (la + lb) c8 A8 (pa ++ pb) w10 cs10.lt hn10 (cs10.cell 0) (hs87.below hb710) HL8.out (by omega)) (fun h k => h.trans k) (pkKeep_b hn10) rfl
          (fun pre W => pre.isPrefixOf L = true ∧ Below n8 w7 W ∧ Blk W n8 3 #[.int .i64 pre.length])
          (fun c pre W => ¬ pre.isPrefixOf L = true)
          (fun s X Y row ⟨h1, h2, h3⟩ hg hr => ⟨h1, h2.grown hg (by have := h3.lt; omega) (fun g e => by have := (hr g e).1; have := HSZ10.out; omega), h3.grown hg (fun e => by have := (hr _ e).1; have := HSZ10.out; omega)⟩)
          (fun _ _ _ _ _ h _ _ => h)
          ⟨rfl, hb710, bt10⟩ ?assign3 ?body3 ?done3 ?stop3
        case assign3 =>
          intro l x W K hK
          gi_wp2
          exact hK
        case stop3 =>
          rintro D c pre W _ hSp h _
          exact absurd (by rw [List.isPrefixOf_iff_prefix, HL.out]; exact hSp) h
        case body3 =>
          rintro l pre x W ⟨hpre, hb7, bt⟩ hlen
          have hsn := pre_snoc pre L x
          rw [hpre] at hsn
          have hpl : (pre ++ [x]).length = pre.length + 1 := by simp
          have HPL := Lib.hid hpl
          have bw := bw7.below hb7 (by omega)
          have hcw := bw.cells
          have hct := bt.cells
          have hft := bt.frees
          have hslw := hsw7.below hb7
          obtain ⟨k, hk⟩ : ∃ k, pre.length = k := ⟨_, rfl⟩
          rw [hk] at hsn hlen hct HPL bt
          clear hk hpl hpre
          simp only [List.setIfInBounds_toArray, List.set_cons_succ, List.set_cons_zero]
          by_cases h1 : k < L.length
          · obtain ⟨y, hy⟩ : ∃ y, L[k]? = some y := ⟨_, List.getElem?_eq_getElem h1⟩
            have g1 := int_at hslw h1 hy
            have i1 := hslw.idx (P := Tryd.prog) (c := cw) Tryd.underlying39 intSz h1
            simp only [Nat.mul_one] at g1 i1
            rw [hy] at hsn
            have dk : ¬ (L.length : Int) ≤ (k : Int) := by omega
            by_cases hxy : y = x
            · subst hxy
              have hgood : (pre ++ [y]).isPrefixOf L = true := by rw [hsn]; simp
              have HGD := Lib.hid hgood
              have bt1 : Blk (W.setCell ⟨n8, 0, none⟩ (.int .i64 ((k : Int) + 1))) n8 3 #[.int .i64 ((k : Int) + 1)] := bt.set_ 0 _
              have hb1 := hb7.setCell (p := ⟨n8, 0, none⟩) (Nat.le_refl _) (.int .i64 ((k : Int) + 1))
              have pk1 : PkKeep n8 W (W.setCell ⟨n8, 0, none⟩ (.int .i64 ((k : Int) + 1))) := ⟨(Below.refl _ _).setCell (p := ⟨n8, 0, none⟩) (Nat.le_refl _) _, fun g cs hb => hb.far (hb.ne_ bt (by decide)) _⟩
              have ko1 : KeepsOthers W (W.setCell ⟨n8, 0, none⟩ (.int .i64 ((k : Int) + 1))) := KeepsOthers.setCell _ _ _
              clear hsn hgood hy
              gi_wp2
              exact ⟨ko1.from _, pk1, List.isPrefixOf_iff_prefix.1 HGD.out, hb1, by rw [HPL.out]; exact bt1⟩
            · have hbad : ¬ (pre ++ [x]).isPrefixOf L = true := by rw [hsn]; simp; exact hxy
              have e3 : (y == x) = false := beq_eq_false_iff_ne.2 hxy
              have HBD := Lib.hid hbad
              have hbr9 := (hbr1.below hb17 hbrlt).below hb7 (by omega)
              have hcr9 := hbr9.cells
              have hfr9 := hbr9.frees
              clear hsn hbad hy
              gi_wp2
              exact ⟨(KeepsOthers.setCell _ _ _).from _, fun h => HBD.out (List.isPrefixOf_iff_prefix.2 h)⟩
          · have hno : L[k]? = none := List.getElem?_eq_none (by omega)
            have hbad : ¬ (pre ++ [x]).isPrefixOf L = true := by rw [hsn, hno]; simp
            have dk : (L.length : Int) ≤ (k : Int) := by omega
            have HBD := Lib.hid hbad
            have hbr9 := (hbr1.below hb17 hbrlt).below hb7 (by omega)
            have hcr9 := hbr9.cells
            have hfr9 := hbr9.frees
            clear hsn hbad hno
            gi_wp2
            exact ⟨(KeepsOthers.setCell _ _ _).from _, HBD.out⟩
        case done3 =>
          rintro D3 us W3 hD3 hus ⟨hpre, hb7, bt⟩ hK3
          obtain rfl : us = L := by rw [hus]; exact HL.out.symm
          have bw := bw7.below hb7 (by omega)
          have hcw := bw.cells
          have hct := bt.cells
          have hd1 := (hb7.block D1 (by omega)).trans hd17
          have hd2 := (hb7.block D2 (by omega)).trans hd27
          have hsc : ∀ (w' : World), Below W3.heap.size W3 w' → Sl w' w'.heap.size 2 A8 (la + lb) ((pa ++ pb).flatMap Pk.cells) ∧ Sl w' w'.heap.size 2 A la (pa.flatMap Pk.cells) ∧ Sl w' w'.heap.size 2 B lb (pb.flatMap Pk.cells) := by
            intro w' hb'
            have hW3 : n8 ≤ W3.heap.size := by have := bt.lt; omega
            have h3 := hb7.trans (hb'.mono hW3)
            have hw' : n8 ≤ w'.heap.size := by have := hb'.size; omega
            exact ⟨(hs87.below h3).more hw', ((hsa7.more hn8g).below h3).more hw', ((hsb7.more hn8g).below h3).more hw'⟩
          have HSC := Lib.hid hsc
          have hlc := fun w' hb' => sch_len A8 (la + lb) c8 (pa ++ pb) w' (HSC.out w' hb').1 HL8.out (by omega)
          have hla := fun w' hb' => sch_len A la ca pa w' (HSC.out w' hb').2.1 HNA.out (by omega)
          have hlb := fun w' hb' => sch_len B lb cb pb w' (HSC.out w' hb').2.2 HNB.out (by omega)
          rw [← HL.out] at hlc
          rw [← HYS.out] at hla
          rw [← HZS.out] at hlb
          have hym : ys.length ≤ 60000 := hLA
          have hzm : zs.length ≤ 60000 := by rw [HZS.out]; exact allSize _ _
          have hq : ((us.length : Int) == min ((ys.length : Int) + (zs.length : Int)) 60000) = true := by rw [beq_iff_eq]; have := HLL.out; omega
          have HQ := Lib.hid hq
          have hbr9 := (hbr1.below hb17 hbrlt).below hb7 (by omega)
          have HB := Lib.hid hbr9
          have hW3 : n8 ≤ W3.heap.size := by have := bt.lt; omega
          have HLC := Lib.hid hlc
          have HLA := Lib.hid hla
          have HLB := Lib.hid hlb
          clear hsc hlc hla hlb hq hbr9
          go_wp2_with fail
          refine (HLC.out W3 (Below.refl _ _)).mono ?_
          rintro e x1 ⟨rfl, hx1⟩
          go_wp2_with fail
          refine (HLA.out x1 hx1).mono ?_
          rintro e x2 ⟨rfl, hx2⟩
          have hx02 := hx1.trans (hx2.mono hx1.size)
          go_wp2_with fail
          refine (HLB.out x2 hx02).mono ?_
          rintro e x3 ⟨rfl, hx3⟩
          have hx03 := hx02.trans (hx3.mono hx02.size)
          have hbr3 := HB.out.step hx03
          have hcr3 := hbr3.cells
          have hfr3 := hbr3.frees
          have hd13 := (hx03.block D1 (lt_size hd1)).trans hd1
          have hd23 := (hx03.block D2 (lt_size hd2)).trans hd2
          have hd33 := (hx03.block D3 (lt_size hK3)).trans hK3
          go_wp2_with fail
          have hbt : (((allL (pa ++ pb)).length : Int) == min ((ys.length : Int) + (zs.length : Int)) 60000) = true := by rw [← HL.out]; exact HQ.out
          rw [hbt]
          have n1 : br ≠ D1 := by omega
          have n2 : br ≠ D2 := by have := HSZ5.out; omega
          have n3 : br ≠ D3 := by have := HSZ10.out; omega
          have n12 : D1 ≠ D2 := by have := HSZ5.out; omega
          have n13 : D1 ≠ D3 := by have := HSZ10.out; omega
          have n23 : D2 ≠ D3 := by have := HSZ10.out; omega
          have hk3 : (x3.setCell ⟨br, 0, none⟩ (.bool true)).heap[D3]? = some (.deferred (some [])) := (heap_setCell_other x3 _ D3 _ n3.symm).trans hd33
          have hk2 : ((x3.setCell ⟨br, 0, none⟩ (.bool true)).putObj D3 (.deferred none)).heap[D2]? = some (.deferred (some [])) := (World.putObj_heap_other n23).trans ((heap_setCell_other x3 _ D2 _ n2.symm).trans hd23)
          have hk1 : (((x3.setCell ⟨br, 0, none⟩ (.bool true)).putObj D3 (.deferred none)).putObj D2 (.deferred none)).heap[D1]? = some (.deferred (some [])) := (World.putObj_heap_other n12).trans ((World.putObj_heap_other n13).trans ((heap_setCell_other x3 _ D1 _ n1.symm).trans hd13))
          have hbx := ((((hbr3.set_ 0 (.bool true)).grown (grownBy_putObj' _ D3 (.deferred none)) (fun e => n3 (by injection e with e; exact e.symm))).grown (grownBy_putObj' _ D2 (.deferred none)) (fun e => n2 (by injection e with e; exact e.symm))).grown (grownBy_putObj' _ D1 (.deferred none)) (fun e => n1 (by injection e with e; exact e.symm)))
          have hcx := hbx.cells
          have hw1 : w.heap.size ≤ w1.heap.size := hb01.size
          have hw7 : w.heap.size ≤ n8 := by omega
          have hbw : Below w.heap.size w x3 := ((hb01.trans (hb17.mono (by omega))).trans (hb7.mono hw7)).trans (hx03.mono (by omega))
          have hbw' := (((hbw.setCell (p := ⟨br, 0, none⟩) (by simp; omega) (.bool true)).grown (grownBy_putObj' _ D3 (.deferred none)) (by simp [World.setCell]; exact hbw.size) (fun g e => by injection e with e; omega)).grown (grownBy_putObj' _ D2 (.deferred none)) (by simp [World.setCell]; exact hbw.size) (fun g e => by injection e with e; omega)).grown (grownBy_putObj' _ D1 (.deferred none)) (by simp [World.setCell]; exact hbw.size) (fun g e => by injection e with e; omega)
          refine ⟨by simp, .inl ⟨_, _, rfl, run_takeDeferred hk3, by simp, .inl ⟨_, _, rfl, run_takeDeferred hk2, by simp, .inl ⟨_, _, rfl, run_takeDeferred hk1, ?_⟩⟩⟩⟩
          exact ⟨.bool true, by simp [results, Tryd.results8, go_sem, hcx], rfl, hbw'⟩
    case stop =>
      rintro D c pre W _ _ h _
      exact h.elim
end Go.Proofs.YtiihhpmgfmiacaaDoor
