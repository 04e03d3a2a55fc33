/- The law SpecCopies returns true, whatever the shape and the operations.
   Conditions: none. -/
import Derived.Test.YtboommppikfgnaaLUndoes
namespace Go.Proofs.Ytboommppikfgnaa
open Go Go.RowKit

theorem spec_Same_is {Z Z2 : Nat → Prop} {b b2 : Nat} {sh sh2 : Int} {items items2 : List Int} {w : World} (r : Bool) (hr : (decide (sh = sh2) && items == items2) = r) (h : SAt w Z b sh items) (h' : SAt w Z2 b2 sh2 items2) (hl : items.length ≤ 1000) (hl2 : items2.length ≤ 1000) :
    Calls Try.prog 44 #[.pointer (some ⟨b, 0, none⟩), .pointer (some ⟨b2, 0, none⟩)] w fun e w' => e = .returned (.bool r) ∧ Below w.heap.size w w' := by
  subst hr; exact spec_Same h h' hl hl2
theorem ref_Ints_is {B : Nat} {w : World} (r : Bool) (l m : List Int) (hr : (l == m) = r) (A1 A2 : Option Addr) (n1 n2 c1 c2 : Nat) (h1 : Sl w B 1 A1 n1 (ints l)) (h2 : Sl w B 1 A2 n2 (ints m)) (hB : B ≤ w.heap.size) (hn1 : n1 ≤ 100000) (hn2 : n2 ≤ 100000) :
    Calls Try.prog 38 #[.slice A1 n1 c1, .slice A2 n2 c2] w fun e w' => e = .returned (.bool r) ∧ Below w.heap.size w w' := by
  subst hr; exact ref_Ints l m A1 A2 n1 n2 c1 c2 h1 h2 hB hn1 hn2

set_option maxRecDepth 100000 in
set_option maxHeartbeats 12800000 in
theorem law_scopies (x8 : Int) (hx8 : 0 ≤ x8 ∧ x8 ≤ 255) (A : Option Addr) (n c : Nat) (A' : Option Addr) (n' c' B0 : Nat) (ops more : List Opn) (w : World) (hs : Sl w B0 2 A n (ops.flatMap Opn.cells)) (hel : ops.length = n)
    (hs' : Sl w B0 2 A' n' (more.flatMap Opn.cells)) (hel' : more.length = n') (hB0 : B0 ≤ w.heap.size) :
    Calls Try.prog 12 #[.int .u8 x8, .slice A n c, .slice A' n' c'] w fun e w' => e = .returned (.bool true) ∧ Below w.heap.size w w' := by
  obtain ⟨hx0, hx1⟩ := hx8
  by_cases hbig : 60 < n
  · go_enter Try.func12, Try.ntmps12
    go_wp2_with fail
    refine (sawake _).mono ?_
    rintro e w1 ⟨rfl, h1⟩
    go_wp2_with fail
    go_ret
    exact ⟨rfl, h1⟩
  have hn60 : n ≤ 60 := by omega
  have hgt : decide ((60 : Int) < (n : Int)) = false := by simp; omega
  by_cases hbig' : 60 < n'
  · go_enter Try.func12, Try.ntmps12
    go_wp2_with fail
    refine (sawake _).mono ?_
    rintro e w1 ⟨rfl, h1⟩
    go_wp2_with fail
    go_ret
    exact ⟨rfl, h1⟩
  have hn60' : n' ≤ 60 := by omega
  have hgt' : decide ((60 : Int) < (n' : Int)) = false := by simp; omega
  clear hbig hbig'
  go_enter Try.func12, Try.ntmps12
  go_wp2_with fail
  refine (sawake _).mono ?_
  rintro e w1 ⟨rfl, h1⟩
  have hs1 := hs.below (h1.mono hB0)
  have hB1 : B0 ≤ w1.heap.size := by have := h1.size; omega
  have hb1 : Below w.heap.size w w1 := h1
  clear hs
  go_wp2_with fail
  obtain ⟨K, hK⟩ : ∃ K, K = 1 + x8 % 4 := ⟨_, rfl⟩
  have hK1 : 1 ≤ K ∧ K ≤ 4 := by omega
  rw [← hK]
  clear hK
  generalize x8 % 4 = kq at *
  refine (law_right K A n c B0 ops w1 hs1 hB1 hel (by omega)).mono ?_
  rintro e w2 ⟨v2, rfl, ho2, hb2⟩
  have hall : allMay K (ops.filter (may K)) := fun o ho => of_decide_eq_true (List.mem_filter.1 ho).2
  have hdl : (ops.filter (may K)).length ≤ 60 := by have := List.length_filter_le (may K) ops; omega
  generalize ops.filter (may K) = did at *
  obtain ⟨A2, c2, rfl, -, -, -⟩ := own_form ho2
  have hsl2 := Sl.of_own ho2
  have h2 := h1.trans (hb2.mono h1.size)
  clear ho2 hs1 h1 hb2 hB1 hel hb1
  generalize hdn : did.length = dn at *
  have HDN := Lib.hid hdn
  clear hdn
  go_wp2_with fail
  refine (spec_Play K hK1 A2 dn c2 w2.heap.size did w2 hsl2 (Nat.le_refl _) HDN.out (by omega)).mono ?_
  rintro e w3 (⟨-, v3, g, rfl, s3, ho3, hb3⟩ | ⟨hnot, -⟩)
  case inr => exact absurd hall hnot
  have hil : (itemsOf K did).length ≤ 60 := by have := itemsOf_len K did; have := HDN.out; omega
  have hr0 := items_rise K did hall
  have hnn := items_nonneg K did hall
  have h3 := h2.trans (hb3.mono h2.size)
  obtain ⟨A3, c3, rfl, -, -, -⟩ := own_form ho3
  have s3' := s3.less (Z' := fun k => k < w2.heap.size) (fun _ h => .inl h)
  have hw23 : w.heap.size ≤ w2.heap.size := h2.size
  clear s3 ho3 hb3 hsl2 h2
  generalize w2.heap.size = N at *
  generalize hqd : itemsOf K did = q at *
  have HQD := Lib.hid hqd
  have HDM := Lib.hid hall
  clear hqd hall
  have HR0 := Lib.hid hr0
  have HNN := Lib.hid hnn
  clear hr0 hnn
  go_wp2_with fail
  refine (spec_Copy s3' (by omega)).mono ?_
  rintro e w4 ⟨gc, rfl, sc, hb4⟩
  have sa := s3'.step' hb4
  have h4 := h3.trans (hb4.mono h3.size)
  have HA3 := Lib.hid s3'
  clear s3'
  go_wp2_with fail
  refine (spec_Same_is true (by simp) sc sa (by omega) (by omega)).mono ?_
  rintro e w5 ⟨rfl, hb5⟩
  have sc5 := sc.step' hb5
  have sa5 := sa.step' hb5
  have h5 := h4.trans (hb5.mono h4.size)
  have hs35 := hb4.trans (hb5.mono hb4.size)
  clear sc sa h4 hb4 hb5
  go_wp2_with fail
  refine (spec_Same_is true (by simp) sa5 sc5 (by omega) (by omega)).mono ?_
  rintro e w6 ⟨rfl, hb6⟩
  have sc6 := sc5.step' hb6
  have sa6 := sa5.step' hb6
  have h6 := h5.trans (hb6.mono h5.size)
  have hs36 := hs35.trans (hb6.mono hs35.size)
  clear sc5 sa5 h5 hb6 hs35
  go_wp2_with fail
  refine (spec_Same_nil (some ⟨g, 0, none⟩)).mono ?_
  rintro e w7 ⟨rfl, hb7⟩
  have sc7 := sc6.step' hb7
  have sa7 := sa6.step' hb7
  have h7 := h6.trans (hb7.mono h6.size)
  have hs37 := hs36.trans (hb7.mono hs36.size)
  clear sc6 sa6 h6 hb7 hs36
  go_wp2_with fail
  refine (bag_Items sa7 (by omega)).mono ?_
  rintro e w8 ⟨v8, rfl, ho8, hb8⟩
  obtain ⟨Z8, sc8, mz, mz'⟩ := sc7.more hb8
  have h8 := h7.trans (hb8.mono h7.size)
  have hs38 := hs37.trans (hb8.mono hs37.size)
  have hz3 : ∀ k, k < w3.heap.size → Z8 k := fun k hk => mz k hk
  have hzq : ∀ k, v8.ownBlock = some k → Z8 k := fun k hk => by
    obtain ⟨h1, cs, h'⟩ := own_at ho8 k hk
    exact mz' k h1 h'.lt
  have hlo : ∀ k, v8.ownBlock = some k → w3.heap.size ≤ k := fun k hk => by
    have h1 := (own_at ho8 k hk).1
    have := hs37.size
    omega
  have ho8' : w8.ownsRow 0 3 1 v8 q.length (ints q) := own_mono ho8 (Nat.zero_le _)
  have hB8 : B0 ≤ w8.heap.size := by have := h8.size; omega
  have hs8' := hs'.below (h8.mono hB0)
  clear sa7 sc7 h7 hs37 mz mz' ho8 hb8 hs'
  generalize hqn : q.length = qn at *
  have HQ := Lib.hid hqn
  clear hqn
  obtain ⟨A8, c8, rfl, hc8, hn8, -⟩ := own_form ho8'
  go_wp2_with fail
  refine (law_right K A' n' c' B0 more w8 hs8' hB8 hel' (by omega)).mono ?_
  rintro e w9 ⟨v9, rfl, ho9, hb9⟩
  have hall : allMay K (more.filter (may K)) := fun o ho => of_decide_eq_true (List.mem_filter.1 ho).2
  have hml : (more.filter (may K)).length ≤ 60 := by have := List.length_filter_le (may K) more; omega
  generalize more.filter (may K) = mo at *
  obtain ⟨A9, c9, rfl, -, -, -⟩ := own_form ho9
  obtain ⟨Z9, sc9, mz, mz'⟩ := sc8.more hb9
  have h9 := h8.trans (hb9.mono h8.size)
  have hs39 := hs38.trans (hb9.mono hs38.size)
  have ho8'' := own_step ho8' hb9
  have hz3' : ∀ k, k < w3.heap.size → Z9 k := fun k hk => mz k (hz3 k hk)
  have hzq' : ∀ k, (Value.slice A8 qn c8).ownBlock = some k → Z9 k := fun k hk => mz k (hzq k hk)
  have hzr : ∀ k, (Value.slice A9 mo.length c9).ownBlock = some k → Z9 k := fun k hk => by
    obtain ⟨h1, cs, h'⟩ := own_at ho9 k hk
    exact mz' k h1 h'.lt
  clear sc8 ho8' h8 hs38 hz3 hzq mz mz' hb9 hs8' hel' hB8
  generalize hmn : mo.length = mn at *
  have HMN := Lib.hid hmn
  have HALL := Lib.hid hall
  clear hmn hall
  have k0 : Kz Z9 w9 w9 := Kz.refl _ _
  have t0 : SAt w9 Z9 gc K (itemsOf K (did ++ mo.take 0)) := by rw [List.take_zero, List.append_nil, HQD.out]; exact sc9
  have hdl' : did.length ≤ 60 := by have := HDN.out; omega
  clear sc9
  go_wp2_with fail
  go_loopw [77] (fun i wr => ∃ j : Nat, j ≤ mn ∧ i = .int .i64 j ∧ SAt wr Z9 gc K (itemsOf K (did ++ mo.take j)) ∧ Kz Z9 w9 wr) (fun i _ => mn - (intOf i).toNat)
  case atStart => exact ⟨0, by omega, rfl, t0, k0⟩
  case round =>
    obtain ⟨j, hj, rfl, hsp, hk⟩ := hrel
    have hks := hk.size
    have hilj : (itemsOf K (did ++ mo.take j)).length ≤ 1000 := by have := itemsOf_len K (did ++ mo.take j); have := List.length_take_le j mo; rw [List.length_append] at *; omega
    have hallj : allMay K (did ++ mo.take j) := fun o ho => by
      rcases List.mem_append.1 ho with h | h
      · exact HDM.out o h
      · exact HALL.out o (List.mem_of_mem_take h)
    by_cases hjt : j < mn
    · have dj : decide ((j : Int) < (mn : Int)) = true := by simp; omega
      obtain ⟨o, ho⟩ : ∃ o, mo[j]? = some o := ⟨_, List.getElem?_eq_getElem (by rw [HMN.out]; exact hjt)⟩
      have hslw := Sl.of_own (own_kz ho9 hk hzr)
      have hidx := hslw.idx (P := Try.prog) (c := c9) Try.underlying58 opSz hjt
      obtain ⟨f0, f1⟩ := op_cells hslw hjt ho
      have hom : mayP K o.kind o.key := HALL.out o (List.mem_of_getElem? ho)
      have hst : spDo K (itemsOf K (did ++ mo.take j)) o = itemsOf K (did ++ mo.take (j + 1)) := by rw [List.take_add_one, ho, Option.toList_some, ← List.append_assoc, itemsOf_snoc]
      have hris := items_rise K _ hallj
      have HST := Lib.hid hst
      have HOM := Lib.hid hom
      clear hslw ho hom hst hallj
      go_upto_region 16 with (fail)
      clear f0 f1 hidx
      have hb7 : Below wr.heap.size wr (wr.alloc (.cells #[.int .i64 o.kind, .int .i64 o.key] 33)) := (Below.refl _ _).alloc (Nat.le_refl _) _
      have hx := Blk.new wr 33 #[.int .i64 o.kind, .int .i64 o.key]
      generalize (wr.alloc (.cells #[.int .i64 o.kind, .int .i64 o.key] 33)) = W at *
      have sp7 := hsp.step' hb7
      have k7 := hk.step hb7
      have cx := hx.cells
      clear hsp hk hb7 hx
      go_wp2_with fail
      refine (spec_Do_is o _ _ sp7 hilj hris HOM.out rfl HST.out).mono ?_
      rintro e wd ⟨rfl, sd, kd⟩
      have kk := k7.trans kd
      clear sp7 k7 kd cx hris hilj
      go_wp2_with fail
      go_roundw
      case rel => exact ⟨j + 1, by omega, by go_num, sd, kk⟩
      case measure => simp [intOf] <;> omega
    · have dj : decide ((j : Int) < (mn : Int)) = false := by simp; omega
      generalize itemsOf K (did ++ mo.take j) = qc at *
      have hks3 := hk.below hz3' hs39.size
      have hb3r := hs39.trans hks3
      have sa := HA3.out.step' hb3r
      have how := own_kz ho8'' hk hzq'
      have hbr := h9.trans (hks3.mono h3.size)
      obtain ⟨bb, hbb⟩ : ∃ bb, bb = (q == qc) := ⟨_, rfl⟩
      have HBB := Lib.hid hbb
      have hnn2 : (bb != bb) = false := by cases bb <;> rfl
      have hq1 : q.length ≤ 1000 := by have := HQ.out; omega
      have hql : Hid (q.length = qn) := HQ
      clear hbb ho8'' ho9 h9 hs39 hks3 hk hallj
      go_wp2_with fail
      refine wp_region_ph (fun w' => ∃ q : Later wr.heap.size wr, w' = q.val) 16 [([0, 1, 2, 4], 3), ([], 5)] [6, 7, 8, 9, 11, 12, 13, 15] [10, 14, 16, 17, 18] (by kernel_rfl) (by kernel_rfl) (Later.mk_ (Below.refl _ _).drew) ?_
      refine wpPh_cons ?_
      simp only [opsAt, List.map_cons, List.map_nil, List.toList_toArray, List.getD_cons_zero, List.getD_cons_succ]
      repeat (go_big_quiet_step (fail))
      refine wpQuiet_nil ?_
      refine wpPh_op rfl (fun K' hK' => ?_)
      go_simp
      refine (bag_Items (sa.step' ((Below.refl _ _).drew)) hq1).mono ?_
      rintro e x1 ⟨v1, rfl, hv1, hx1⟩
      have hx1' : Below wr.heap.size wr x1 := (Below.refl _ _).drew.trans hx1
      obtain ⟨B1, d1, rfl, -, -, -⟩ := own_form hv1
      have sl1 := Sl.of_own hv1
      have slw1 := (Sl.of_own (own_step how hx1'))
      refine hK' _ _ (Later.mk_ hx1') ?_
      clear hK' K' hx1 hv1
      refine wpPh_cons ?_
      refine wpQuiet_nil ?_
      refine wpPh_op rfl (fun K' hK' => ?_)
      go_simp
      refine (ref_Ints_is true q q (by simp) _ _ _ _ _ _ sl1 slw1 (Nat.le_refl _) (by omega) (by omega)).mono ?_
      rintro e x2 ⟨rfl, hx2⟩
      have hx2' := hx1'.trans (hx2.mono hx1'.size)
      refine hK' _ _ (Later.mk_ hx2') ?_
      clear hK' K' sl1 slw1 hx2 hx1'
      refine wpPh_nil ?_
      repeat (go_big_quiet_step (fail))
      refine wpQuiet_nil ?_
      refine wpTail_early rfl (fun K' hK' => ?_)
      go_simp
      refine (spec_Same_is bb (by rw [HBB.out]; simp) (sa.step' hx2') (hsp.step' hx2') hq1 hilj).mono ?_
      rintro e x3 ⟨rfl, hx3⟩
      have hx3' := hx2'.trans (hx3.mono hx2'.size)
      refine hK' _ _ (Later.mk_ hx3') ?_
      clear hK' K' hx3 hx2'
      refine wpTail_early rfl (fun K' hK' => ?_)
      go_simp
      refine (bag_Items (hsp.step' hx3') hilj).mono ?_
      rintro e x4 ⟨v4, rfl, hv4, hx4⟩
      have hx4' := hx3'.trans (hx4.mono hx3'.size)
      obtain ⟨B4, d4, rfl, -, -, -⟩ := own_form hv4
      have sl4 := Sl.of_own hv4
      have slw4 := (Sl.of_own (own_step how hx4'))
      refine hK' _ _ (Later.mk_ hx4') ?_
      clear hK' K' hx4 hv4 hx3'
      refine wpTail_late _ _ _ (by kernel_rfl) ?_
      generalize hqc : qc.length = qcn at *
      clear hqc
      go_wp2_with fail
      refine (ref_Ints_is bb qc q (by rw [HBB.out, Bool.eq_iff_iff, beq_iff_eq, beq_iff_eq]; exact eq_comm) _ _ _ _ _ _ sl4 slw4 (Nat.le_refl _) (by omega) (by omega)).mono ?_
      rintro e x5 ⟨rfl, hx5⟩
      have hx5' := hx4'.trans (hx5.mono hx4'.size)
      go_wp2_with fail
      refine NoPanic.normal ?_
      have sa5 := sa.step' hx5'
      have how5 := own_step how hx5'
      have hb5 := hbr.trans (hx5'.mono hbr.size)
      have hb35 := hb3r.trans (hx5'.mono hb3r.size)
      clear sl4 slw4 hx5 hx4' hx5' sa how hbr hb3r hsp HBB
      clear hilj k0 t0 hml hj hjt hks hdl' sa5
      have hs5 := hb35.size
      have how0 : ∃ xs, x5.ownsRow 0 3 1 (.slice A8 qn c8) qn xs := ⟨_, how5⟩
      have hb00 : Below w3.heap.size x5 x5 := Below.refl _ _
      clear how5
      go_wp2_with fail
      go_loopw [106] (fun i wr => ∃ j : Nat, j ≤ qn ∧ i = .int .i64 j ∧ (∃ xs, wr.ownsRow 0 3 1 (.slice A8 qn c8) qn xs) ∧ Below w3.heap.size x5 wr) (fun i _ => qn - (intOf i).toNat)
      case atStart => exact ⟨0, by omega, rfl, how0, hb00⟩
      case round =>
        obtain ⟨j, hj, rfl, ⟨xs, hox⟩, hbx⟩ := hrel
        by_cases hjt : j < qn
        · have dj : decide ((j : Int) < (qn : Int)) = true := by simp; omega
          obtain ⟨g8, rfl⟩ : ∃ g8, A8 = some ⟨g8, 0, none⟩ := by
            rcases hox.2 with ⟨h0, _⟩ | ⟨g8, cap, cur, hv, _⟩
            · injection h0 with h0 h1; subst h0; have := (hn8 rfl).1; omega
            · injection hv with hv _ _; exact ⟨g8, hv⟩
          have hxl := hox.1
          obtain ⟨cs, hblk, hcs, hcap, hmx, hcell⟩ := own_rowcells hox
          obtain ⟨u, hu⟩ : ∃ u, xs[j]? = some u := ⟨_, List.getElem?_eq_getElem (by rw [hxl]; omega)⟩
          have hcj := (hcell j hjt).trans hu
          have hfz := hblk.frozen j
          have hst := (hox.stored j (.int .i64 (-1))).1
          have hlow := hlo g8 rfl
          have hbs := hbx.setCell (p := ⟨g8, j, none⟩) hlow (.int .i64 (-1))
          have HST := Lib.hid hst
          clear hblk hcs hcap hmx hcell hu hox hst hxl
          go_wp2_with fail
          go_roundw
          case rel => exact ⟨j + 1, by omega, by go_num, ⟨_, by first | exact HST.out | (simpa using HST.out)⟩, by first | exact hbs | simpa using hbs⟩
          case measure => simp [intOf] <;> omega
        · have dj : decide ((j : Int) < (qn : Int)) = false := by simp; omega
          have sA : SAt wr (fun k => k < N) g K q := by
            exact HA3.out.step' (hb35.trans hbx)
          have hbw := hb5.trans (hbx.mono h3.size)
          clear hox hbx
          go_wp2_with fail
          refine (bag_Items sA hq1).mono ?_
          rintro e y1 ⟨v1, rfl, hv1, hy1⟩
          rw [HQ.out] at hv1
          obtain ⟨B1, d1, rfl, -, -, -⟩ := own_form hv1
          have slq := Sl.of_own hv1
          have sA1 := sA.step' hy1
          have hby := hbw.trans (hy1.mono hbw.size)
          have hz0 : Below y1.heap.size y1 y1 := Below.refl _ _
          have HSA := Lib.hid sA1
          clear hv1 sA sA1 hy1 hbw hj hjt dj
          go_wp2_with fail
          go_loopw [118] (fun i wz => ∃ j : Nat, j ≤ qn ∧ i = .int .i64 j ∧ Below y1.heap.size y1 wz) (fun i _ => qn - (intOf i).toNat)
          case atStart => exact ⟨0, by omega, rfl, hz0⟩
          case round =>
            obtain ⟨j, hj, rfl, hbz⟩ := hrel
            by_cases hjt : j < qn
            · have dj : decide ((j : Int) < (qn : Int)) = true := by simp; omega
              obtain ⟨y, hy⟩ : ∃ y, q[j]? = some y := ⟨_, List.getElem?_eq_getElem (by rw [HQ.out]; exact hjt)⟩
              have hslw := slq.below hbz
              have g1 := RowI.at_ hslw hjt hy
              have i1 := hslw.idx (P := Try.prog) (c := d1) Try.underlying62 intSz hjt
              have hy0 := HNN.out y (List.mem_of_getElem? hy)
              have dy : decide (y < 0) = false := by simp; omega
              simp only [Nat.mul_one] at g1 i1
              clear hy hslw
              go_wp2_with fail
              go_roundw
              case rel => exact ⟨j + 1, by omega, by go_num, hbz⟩
              case measure => simp [intOf] <;> omega
            · have dj : decide ((j : Int) < (qn : Int)) = false := by simp; omega
              have sz := HSA.out.step' hbz
              have hbf := hby.trans (hbz.mono hby.size)
              obtain ⟨K2, hK2⟩ : ∃ K2, K2 = 1 + K % 4 := ⟨_, rfl⟩
              have hK21 : 1 ≤ K2 ∧ K2 ≤ 4 := by omega
              have hne : decide (K = K2) = false := by simp; omega
              have hk0 : 0 ≤ K := by omega
              have hk4 : K ≤ 4 := by omega
              clear hbz slq HSA
              go_wp2_with fail
              rw [← hK2]
              have HNE := Lib.hid hne
              clear hK2 hne
              refine (spec_New K2 hK21 _).mono ?_
              rintro e z1 ⟨rfl, sb, hz1⟩
              have sz1 := sz.step' hz1
              have hbf1 := hbf.trans (hz1.mono hbf.size)
              clear sz hz1 hbf
              go_wp2_with fail
              refine (spec_Same_is false (by rw [HNE.out]; rfl) sz1 sb hq1 (by simp)).mono ?_
              rintro e z2 ⟨rfl, hz2⟩
              go_wp2_with fail
              go_ret
              exact ⟨rfl, hbf1.trans (hz2.mono hbf1.size)⟩
end Go.Proofs.Ytboommppikfgnaa
