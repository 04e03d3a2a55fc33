/- The law SpecPlays returns true, whatever the shape and the operations.
   Conditions: none. -/
import Derived.Test.YtboommppikfgnaaSRef3
import Derived.Test.YtboommppikfgnaaLCounts
namespace Go.Proofs.Ytboommppikfgnaa
open Go Go.RowKit

theorem info_Op : (Try.prog.info? 33).map (fun i => (i.zero, i.size, i.bytes)) = some (some (.agg #[.int .i64 0, .int .i64 0]), 2, 16) := by kernel_rfl
theorem law_none (sh : Int) (b : Bool) (hb : decide (sh < 1 ∨ 4 < sh) = b) (w : World) : Calls Try.prog 34 #[.int .i64 sh] w fun e w' => e = .returned (.bool b) ∧ w' = w := by
  have HB := Lib.hid hb
  clear hb
  by_cases h1 : sh < 1
  · have H := Lib.hid (show decide (sh < 1 ∨ 4 < sh) = true by simp [h1])
    go_enter Try.func34, Try.ntmps34
    go_wp2
    go_ret
    exact ⟨ret_b (by rw [← HB.out, H.out]), rfl⟩
  · have d1 : decide (sh < 1) = false := by simpa using h1
    have H := Lib.hid (show decide (sh < 1 ∨ 4 < sh) = decide (4 < sh) by simp; omega)
    clear h1
    go_enter Try.func34, Try.ntmps34
    go_wp2
    go_ret
    exact ⟨ret_b (by rw [← HB.out, H.out]), rfl⟩

set_option maxRecDepth 100000 in
set_option maxHeartbeats 6400000 in
theorem law_splays (sh : Int) (A : Option Addr) (n c B0 : Nat) (ops : List Opn) (w : World) (hs : Sl w B0 2 A n (ops.flatMap Opn.cells)) (hel : ops.length = n) (hB0 : B0 ≤ w.heap.size) :
    Calls Try.prog 9 #[.int .i64 sh, .slice A n c] w fun e w' => e = .returned (.bool true) ∧ Below w.heap.size w w' := by
  by_cases hbig : 60 < n
  · go_enter Try.func9, Try.ntmps9
    go_wp2_with fail
    refine (sawake _).mono ?_
    rintro e w1 ⟨rfl, h1⟩
    go_wp2_with fail
    go_ret
    exact ⟨rfl, h1⟩
  have hn60 : n ≤ 60 := by omega
  have hgt : decide ((60 : Int) < (n : Int)) = false := by simp; omega
  have HL := Lib.hid hel
  clear hbig hel
  by_cases hno : sh < 1 ∨ 4 < sh
  · have hnone := law_none sh true (by simpa using hno)
    go_enter Try.func9, Try.ntmps9
    go_wp2_with fail
    refine (sawake _).mono ?_
    rintro e w1 ⟨rfl, h1⟩
    go_wp2_with fail
    refine (spec_New_none sh hno _).mono ?_
    rintro e w2 ⟨rfl, rfl⟩
    go_wp2_with fail
    refine (hnone _).mono ?_
    rintro e w2 ⟨rfl, rfl⟩
    go_wp2_with fail
    go_ret
    exact ⟨rfl, h1⟩
  have hK1 : 1 ≤ sh ∧ sh ≤ 4 := by omega
  have hnone := law_none sh false (by simp; omega)
  obtain ⟨iO, hiO, zO, sO, bO⟩ := info_parts info_Op
  clear hno
  go_enter Try.func9, Try.ntmps9
  go_wp2_with fail
  refine (sawake _).mono ?_
  rintro e w1 ⟨rfl, h1⟩
  go_wp2_with fail
  refine (spec_New sh hK1 w1).mono ?_
  rintro e w2 ⟨rfl, s2, hb2⟩
  have hw1 := h1.size
  have h2 := h1.trans (hb2.mono hw1)
  have hbl := s2.lt
  generalize hbb : w1.heap.size = b at *
  clear hbb h1 hb2
  go_wp2_with fail
  refine (hnone _).mono ?_
  rintro e w2' ⟨rfl, rfl⟩
  have s2' : SAt w2' (fun x => x < b ∨ (Value.slice none 0 0).ownBlock = some x) b sh (itemsOf sh (didTo sh ops 0)) := s2.less (fun k hk => by rcases hk with hk | hk; exact hk; simp [Value.ownBlock] at hk)
  obtain ⟨v0, g0, -, -, -⟩ := s2.at_
  have g1 := g0.cell 1
  clear s2 g0
  go_wp2_with fail
  clear g1
  go_loopw [46, 7] (fun i did wr => ∃ k m : Nat, k ≤ n ∧ i = .int .i64 k ∧ SAt wr (fun x => x < b ∨ did.ownBlock = some x) b sh (itemsOf sh (didTo sh ops k)) ∧ Hid ((didTo sh ops k).length = m) ∧ m ≤ k ∧ wr.ownsRow b 33 2 did m ((didTo sh ops k).flatMap Opn.cells) ∧ Below w.heap.size w wr ∧ b < wr.heap.size) (fun i _ _ => n - (intOf i).toNat)
  case atStart => exact ⟨0, 0, by omega, rfl, s2', rfl, Nat.le_refl _, World.ownsRow_nil _ _ _ _, h2, hbl⟩
  case round =>
    obtain ⟨k, m, hk, rfl, hsp, hm, hmk, hown, hb, hBr⟩ := hrel
    have hil : (itemsOf sh (didTo sh ops k)).length ≤ 1000 := by have := itemsOf_len sh (didTo sh ops k); have := didTo_len sh ops k; omega
    by_cases hlt : k < n
    · have dk : decide ((k : Int) < (n : Int)) = true := by simp; omega
      obtain ⟨o, ho⟩ : ∃ o, ops[k]? = some o := ⟨_, List.getElem?_eq_getElem (by rw [HL.out]; exact hlt)⟩
      have hsw := hs.below (hb.mono hB0)
      have hidx := hsw.idx (P := Try.prog) (c := c) Try.underlying58 opSz hlt
      obtain ⟨f0, f1⟩ := op_cells hsw hlt ho
      have hst := didTo_items sh ops k o ho
      have hdd := didTo_succ sh ops k o ho
      have hris := items_rise sh _ (didTo_may sh ops k)
      have htell := tell_ref sh (didTo sh ops k) o hK1 (didTo_may sh ops k)
      have hil' : (itemsOf sh (didTo sh ops (k + 1))).length ≤ 1000 := by have := itemsOf_len sh (didTo sh ops (k + 1)); have := didTo_len sh ops (k + 1); omega
      have HS := Lib.hid hst
      have HD := Lib.hid hdd
      have HT := Lib.hid htell
      clear hst hdd htell ho hsw
      obtain ⟨A7, c7, rfl, hc7, -, -⟩ := own_form hown
      go_upto_region 14 with (fail)
      clear f0 f1 hidx
      have hb7 : Below wr.heap.size wr (wr.alloc (.cells #[.int .i64 o.kind, .int .i64 o.key] 33)) := (Below.refl _ _).alloc (Nat.le_refl _) _
      have hx := Blk.new wr 33 #[.int .i64 o.kind, .int .i64 o.key]
      generalize (wr.alloc (.cells #[.int .i64 o.kind, .int .i64 o.key] 33)) = W at *
      have sp7 := hsp.step hb7
      have ho7 := own_step hown hb7
      have hoX : ∀ g, (Value.slice A7 m c7).ownBlock = some g → g < wr.heap.size := fun g hg => by obtain ⟨_, cs, h'⟩ := own_at hown g hg; exact h'.lt
      have hb' := hb.trans (hb7.mono hb.size)
      have hws := hb7.size
      have hxl := hx.lt
      have cx := hx.cells
      clear hsp hb hb7 hown
      generalize hX : wr.heap.size = X at *
      clear hX
      go_wp2_with fail
      refine (spec_Do o sp7 hil hris).mono ?_
      rw [← HS.out]
      rintro e w8 ⟨rfl, s8, k8⟩
      have hx8 := hx.kz k8 (.inr ⟨Nat.le_refl _, hxl⟩)
      have ho8 := own_kz ho7 k8 (fun g hg => .inl (.inr hg))
      have s8' := s8.less (Z' := fun x => x < b ∨ (Value.slice A7 m c7).ownBlock = some x) (fun _ h => .inl h)
      have hb8 := hb'.trans ((k8.below (fun g hg => .inl (.inl hg)) (by omega)).mono hw1)
      have hs8 := k8.size
      clear sp7 k8 cx hx hb' hil hris ho7 s8
      generalize hr : spRes sh (itemsOf sh (didTo sh ops k)) o = r at *
      have HR := Lib.hid hr
      clear hr
      have cx := hx8.cells
      have hxl8 := hx8.lt
      go_upto_region 15 with (fail)
      have hb9 : Below w8.heap.size w8 (w8.alloc (.cells #[.int .i64 r.code, .bool r.ok, .int .i64 r.val] 36)) := (Below.refl _ _).alloc (Nat.le_refl _) _
      have hy := Blk.new w8 36 #[.int .i64 r.code, .bool r.ok, .int .i64 r.val]
      have hx9 := hx8.step hb9
      have s9 := s8'.step' hb9
      have ho9 := own_step ho8 hb9
      have hb9' := hb8.trans (hb9.mono hb8.size)
      have hs9 := hb9.size
      have hyl := hy.lt
      clear cx hx8 s8' ho8 hb8 hb9
      generalize (w8.alloc (.cells #[.int .i64 r.code, .bool r.ok, .int .i64 r.val] 36)) = W9 at *
      generalize w8.heap.size = Y at *
      have cx := hx9.cells
      go_wp2_with fail
      refine (ref_May sh o W9).mono ?_
      cases hmay : may sh o with
      | false =>
        rintro e W10 ⟨rfl, hb10⟩
        have hres : r = .none_ := by rw [← HR.out, spRes, hmay]; rfl
        have herr : spErr sh o = 1 := by rw [spErr, hmay]; rfl
        have hdid : didTo sh ops (k + 1) = didTo sh ops k := by rw [HD.out, hmay]; simp
        subst hres
        rw [herr]
        have hy10 := hy.step hb10
        have s10 := s9.step' hb10
        have ho10 := own_step ho9 hb10
        have hbb := hb9'.trans (hb10.mono hb9'.size)
        have hs10 := hb10.size
        have hm' : Hid ((didTo sh ops (k + 1)).length = m) := by rw [hdid]; exact hm
        rw [← hdid] at ho10
        have cy := hy10.cells
        simp only [Rsl.none_] at cy
        clear hdid herr HD HR hmay hy s9 ho9 hx9 cx hb10 hb9' HS HT
        go_wp2_with fail
        clear cy hy10
        refine wp_region_ph (fun w' => ∃ q : Later W10.heap.size W10, w' = q.val) 7 [] [0, 1, 2, 4, 5, 6] [3, 7, 8, 9] (by kernel_rfl) (by kernel_rfl) (Later.mk_ (Below.refl _ _).drew) ?_
        refine wpPh_nil ?_
        simp only [opsAt, List.map_cons, List.map_nil, List.getD_cons_zero, List.getD_cons_succ]
        repeat (go_big_quiet_step (fail))
        refine wpQuiet_nil ?_
        refine wpTail_early rfl (fun K hK => ?_)
        go_simp
        refine (bag_Len (s10.step' ((Below.refl _ _).drew))).mono ?_
        rintro e W' ⟨rfl, rfl⟩
        refine hK _ _ (Later.mk_ ((Below.refl _ _).drew)) ?_
        clear hK K
        refine wpTail_late _ _ _ (by kernel_rfl) ?_
        simp only [opsAt, List.map_cons, List.map_nil, List.getD_cons_zero, List.getD_cons_succ]
        go_wp2_with fail
        refine (bag_Items (s10.step' ((Below.refl _ _).drew)) hil').mono ?_
        rintro e W21 ⟨v, rfl, hv, hb21⟩
        obtain ⟨A21, c21, rfl, -, -, -⟩ := own_form hv
        have hb21' : Below W10.heap.size W10 W21 := (Below.refl _ _).drew.trans hb21
        have s21 := s10.step' hb21'
        have ho21 := own_step ho10 hb21'
        have hbb21 := hbb.trans (hb21'.mono hbb.size)
        have hs21 := hb21'.size
        have HSS := Lib.hid s21
        have HOO := Lib.hid ho21
        clear hv hb21 hb21' s10 ho10 s21 ho21
        generalize (itemsOf sh (didTo sh ops (k + 1))).length = L at *
        go_wp2_with fail
        refine NoPanic.normal ?_
        go_wp2_with fail
        go_roundw
        case rel => exact ⟨k + 1, m, by omega, by go_num, HSS.out, (by first | exact hm' | exact trivial), by omega, HOO.out, hbb21, by omega⟩
        case measure => simp [intOf] <;> omega
      | true =>
        rintro e W10 ⟨rfl, hb10⟩
        have hmp : mayP sh o.kind o.key := of_decide_eq_true hmay
        have hrr : refRes sh (didTo sh ops k) o = r := by rw [← HR.out, spRes, hmay, ← HT.out hmp]; rfl
        have herr : spErr sh o = 0 := by rw [spErr, hmay]; rfl
        have hdid : didTo sh ops (k + 1) = didTo sh ops k ++ [o] := by rw [HD.out, hmay]; rfl
        rw [herr]
        have hy10 := hy.step hb10
        have hx10 := hx9.step hb10
        have s10 := s9.step' hb10
        have ho10 := own_step ho9 hb10
        have hbb := hb9'.trans (hb10.mono hb9'.size)
        have hs10 := hb10.size
        have HDD := Lib.hid hdid
        have hm' := Lib.hid (show (didTo sh ops (k + 1)).length = m + 1 by rw [hdid, List.length_append, hm.out]; rfl)
        have qx := Later.cells hx10 hx10.lt
        have qy := Later.cells hy10 hy10.lt
        have hres := fun (W : World) (hb : Below W10.heap.size W10 W) => ref_Res (w := W) (c := c7) sh o (Sl.of_own (own_step ho10 hb)) (Nat.le_refl _) hm.out (by omega) hc7
        rw [hrr] at hres
        have HRES := Lib.hid hres
        clear hdid herr HD HR hmay hy s9 ho9 hx9 cx hb10 hb9' HS HT hrr hmp hres
        go_wp2_with fail
        refine wp_region_ph (fun w' => ∃ q : Later W10.heap.size W10, w' = q.val) 8 [([0, 1, 2, 3, 4, 5, 6], 7)] [] [8, 9] (by kernel_rfl) (by kernel_rfl) (Later.mk_ (Below.refl _ _).drew) ?_
        refine wpPh_cons ?_
        simp only [opsAt, List.map_cons, List.map_nil, List.getD_cons_zero, List.getD_cons_succ]
        repeat (go_big_quiet_step (fail))
        refine wpQuiet_nil ?_
        refine wpPh_op rfl (fun K hK => ?_)
        go_simp
        refine (HRES.out _ ((Below.refl _ _).drew)).mono ?_
        rintro e W11 ⟨rfl, hb11⟩
        have hb11' : Below W10.heap.size W10 W11 := (Below.refl _ _).drew.trans hb11
        refine hK _ _ (Later.mk_ hb11') ?_
        clear hK K
        refine wpPh_nil ?_
        refine wpQuiet_nil ?_
        refine wpTail_late _ _ _ (by kernel_rfl) ?_
        have hx11 := hx10.step hb11'
        have s11 := s10.step' hb11'
        have ho11 := own_step ho10 hb11'
        have hbb11 := hbb.trans (hb11'.mono hbb.size)
        have hs11 := hb11'.size
        clear qx qy hy10 hx10 s10 ho10 hbb hb11 hb11' HRES
        have cx := hx11.cells
        have hxl11 := hx11.lt
        go_wp2_with fail
        refine NoPanic.normal ?_
        have own' := ho11.alloc (.cells #[.int .i64 o.kind, .int .i64 o.key] 33)
        have hba : Below W11.heap.size W11 (W11.alloc (.cells #[.int .i64 o.kind, .int .i64 o.key] 33)) := (Below.refl _ _).alloc (Nat.le_refl _) _
        have sa := s11.step' hba
        go_wp2_with (at_builtin; refine wpList_append_lies _ rfl _ _ _ rfl b 33 iO _ 2 16 Try.underlying58 hiO zO sO bO rfl (by omega) (.slice A7 m c7) m ((didTo sh ops k).flatMap Opn.cells) rfl own' ⟨W11.heap.size, 0, none⟩ 1 1 o.cells rfl rfl (World.news_of_block (heap_alloc_new W11 _)) (Opn.cells_one _) (by omega) (by unfold maxLen; omega) (by omega) (by simp; omega) (W11.heap.size + 1) (by simp) ?_; intro g cap W12 hown2 hgrow hat hlt2)
        have own12 : W12.ownsRow b 33 2 (.slice (some ⟨g, 0, none⟩) (m + 1) cap) (m + 1) ((didTo sh ops (k + 1)).flatMap Opn.cells) := by rw [HDD.out]; simpa using hown2
        have s12 : SAt W12 (fun x => x < b ∨ (Value.slice (some ⟨g, 0, none⟩) (m + 1) cap).ownBlock = some x) b sh (itemsOf sh (didTo sh ops (k + 1))) := sa.rowGrown (by simp; omega) hgrow (by
          rcases hat with h | h
          · exact .inl h
          · exact .inr (by rw [h]; simp [Value.ownBlock])) own12
        have hbb12 := ((hbb11.alloc (by omega) (.cells #[.int .i64 o.kind, .int .i64 o.key] 33)).grown hgrow (by simp; omega) (fun x hx => by have := (own_at own' x hx).1; omega))
        have hs12 := hgrow.size
        have hs13 : W11.heap.size + 1 ≤ W12.heap.size := by simpa using hs12
        clear hown2 hgrow hat hlt2 own' sa hba s11 ho11 hx11 cx hs12 HDD
        refine wp_region_ph (fun w' => ∃ q : Later W12.heap.size W12, w' = q.val) 7 [] [0, 1, 2, 4, 5, 6] [3, 7, 8, 9] (by kernel_rfl) (by kernel_rfl) (Later.mk_ (Below.refl _ _).drew) ?_
        refine wpPh_nil ?_
        simp only [opsAt, List.map_cons, List.map_nil, List.getD_cons_zero, List.getD_cons_succ]
        repeat (go_big_quiet_step (fail))
        refine wpQuiet_nil ?_
        refine wpTail_early rfl (fun K hK => ?_)
        go_simp
        refine (bag_Len (s12.step' ((Below.refl _ _).drew))).mono ?_
        rintro e W' ⟨rfl, rfl⟩
        refine hK _ _ (Later.mk_ ((Below.refl _ _).drew)) ?_
        clear hK K
        refine wpTail_late _ _ _ (by kernel_rfl) ?_
        simp only [opsAt, List.map_cons, List.map_nil, List.getD_cons_zero, List.getD_cons_succ]
        go_wp2_with fail
        refine (bag_Items (s12.step' ((Below.refl _ _).drew)) hil').mono ?_
        rintro e W21 ⟨v, rfl, hv, hb21⟩
        obtain ⟨A21, c21, rfl, -, -, -⟩ := own_form hv
        have hb21' : Below W12.heap.size W12 W21 := (Below.refl _ _).drew.trans hb21
        have s21 := s12.step' hb21'
        have ho21 := own_step own12 hb21'
        have hbb21 := hbb12.trans (hb21'.mono hbb12.size)
        have hs21 := hb21'.size
        have HSS := Lib.hid s21
        have HOO := Lib.hid ho21
        clear hv hb21 hb21' s12 own12 s21 ho21
        generalize (itemsOf sh (didTo sh ops (k + 1))).length = L at *
        go_wp2_with fail
        refine NoPanic.normal ?_
        go_wp2_with fail
        go_roundw
        case rel => exact ⟨k + 1, m + 1, by omega, by go_num, HSS.out, (by first | exact hm' | exact trivial), by omega, HOO.out, hbb21, by omega⟩
        case measure => simp [intOf] <;> omega
    · have dk : decide ((k : Int) < (n : Int)) = false := by simp; omega
      have hit := items_ref sh (didTo sh ops k) hK1 (didTo_may sh ops k)
      have HIT := Lib.hid hit
      clear hit
      obtain ⟨A7, c7, rfl, hc7, -, -⟩ := own_form hown
      go_wp2_with fail
      refine (bag_Items hsp hil).mono ?_
      rintro e W3 ⟨v, rfl, hv, hb3⟩
      have ho3 := own_step hown hb3
      obtain ⟨A3, c3, rfl, -, -, -⟩ := own_form hv
      have hsl3 := Sl.of_own hv
      generalize hLL : (itemsOf sh (didTo sh ops k)).length = L3 at *
      rw [HIT.out] at hsl3
      clear hLL hv
      go_wp2_with fail
      refine (ref_Items (c := c7) sh (Sl.of_own ho3) (Nat.le_refl _) hm.out (by omega) hc7).mono ?_
      rintro e W4 ⟨v, rfl, ⟨A4, c4, rfl, -, hsl4⟩, hb4⟩
      have hlen4 : (refItems sh (didTo sh ops k)).length = L3 := by have := hsl3.len; rw [ints_len] at this; omega
      have hsl3' := (hsl3.step (Nat.le_refl _) hb4).more hb4.size
      have HS4 := Lib.hid hsl4
      have hL4 : (refItems sh (didTo sh ops k)).length ≤ 100000 := by omega
      clear hlen4 hsl3
      generalize (refItems sh (didTo sh ops k)).length = L4 at *
      go_wp2_with fail
      refine (ref_Ints _ _ _ _ _ _ _ _ hsl3' HS4.out (Nat.le_refl _) (by omega) hL4).mono ?_
      rintro e W5 ⟨rfl, hb5⟩
      have hbeq := Lib.hid (show (refItems sh (didTo sh ops k) == refItems sh (didTo sh ops k)) = true by simp)
      rw [hbeq.out]
      go_wp2_with fail
      go_ret
      exact ⟨rfl, ((hb.trans (hb3.mono hb.size)).trans (hb4.mono (by have := hb.size; have := hb3.size; omega))).trans (hb5.mono (by have := hb.size; have := hb3.size; have := hb4.size; omega))⟩
end Go.Proofs.Ytboommppikfgnaa
