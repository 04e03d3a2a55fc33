/- Contract of the law's right: those of some operations that are of a shape.
   Conditions: at most 100 operations. -/
import Derived.Test.YtboommppikfgnaaLSPlays
namespace Go.Proofs.Ytboommppikfgnaa
open Go Go.RowKit

theorem didTo_all (sh : Int) (ops : List Opn) (n : Nat) (h : ops.length ≤ n) : didTo sh ops n = ops.filter (may sh) := by
  unfold didTo; rw [List.take_of_length_le h]

set_option maxRecDepth 100000 in
set_option maxHeartbeats 3200000 in
theorem law_right (K : Int) (A : Option Addr) (n c B : Nat) (ops : List Opn) (w : World) (hs : Sl w B 2 A n (ops.flatMap Opn.cells)) (hB : B ≤ w.heap.size) (hel : ops.length = n) (hn : n ≤ 100) :
    Calls Try.prog 42 #[.int .i64 K, .slice A n c] w fun e w' => ∃ v, e = .returned v ∧ w'.ownsRow w.heap.size 33 2 v (ops.filter (may K)).length ((ops.filter (may K)).flatMap Opn.cells) ∧ Below w.heap.size w w' := by
  obtain ⟨iO, hiO, zO, sO, bO⟩ := info_parts info_Op
  have HL := Lib.hid hel
  have HDA := Lib.hid (didTo_all K ops n (by omega))
  clear hel
  generalize hN : w.heap.size = N at *
  have hb0 : Below N w w := Below.refl _ _
  have hN0 : N ≤ w.heap.size := by omega
  have HN := Lib.hid hN
  clear hN
  go_enter Try.func42, Try.ntmps42
  go_wp2_with fail
  go_loopw [10, 5] (fun i did wr => ∃ k m : Nat, k ≤ n ∧ i = .int .i64 k ∧ Hid ((didTo K ops k).length = m) ∧ m ≤ k ∧ wr.ownsRow N 33 2 did m ((didTo K ops k).flatMap Opn.cells) ∧ Below N w wr ∧ N ≤ wr.heap.size) (fun i _ _ => n - (intOf i).toNat)
  case atStart => exact ⟨0, 0, by omega, rfl, rfl, Nat.le_refl _, World.ownsRow_nil _ _ _ _, hb0, hN0⟩
  case round =>
    obtain ⟨k, m, hk, rfl, hm, hmk, hown, hb, hNr⟩ := hrel
    by_cases hlt : k < n
    · have dk : decide ((k : Int) < (n : Int)) = true := by simp; omega
      obtain ⟨o, ho⟩ : ∃ o, ops[k]? = some o := ⟨_, List.getElem?_eq_getElem (by rw [HL.out]; exact hlt)⟩
      have hsw := hs.below (hb.mono hB)
      have hidx := hsw.idx (P := Try.prog) (c := c) Try.underlying58 opSz hlt
      obtain ⟨f0, f1⟩ := op_cells hsw hlt ho
      have hdd := didTo_succ K ops k o ho
      have hmay := ref_May K o
      have HD := Lib.hid hdd
      have HM := Lib.hid hmay
      clear ho hdd hsw hmay
      obtain ⟨A7, c7, rfl, hc7, -, -⟩ := own_form hown
      go_upto_region 5 with (fail)
      clear f0 f1 hidx
      have hb7 : Below wr.heap.size wr (wr.alloc (.cells #[.int .i64 o.kind, .int .i64 o.key] 33)) := (Below.refl _ _).alloc (Nat.le_refl _) _
      have hx := Blk.new wr 33 #[.int .i64 o.kind, .int .i64 o.key]
      generalize (wr.alloc (.cells #[.int .i64 o.kind, .int .i64 o.key] 33)) = W at *
      have ho7 := own_step hown hb7
      have hb' := hb.trans (hb7.mono hNr)
      have hws := hb7.size
      have cx := hx.cells
      clear hown hb hb7
      go_wp2_with fail
      refine (HM.out W).mono ?_
      rintro e W8 ⟨rfl, hb8⟩
      have ho8 := own_step ho7 hb8
      have hb8' := hb'.trans (hb8.mono (by omega))
      have hx8 := hx.step hb8
      have hs8 := hb8.size
      clear ho7 hb' hb8 cx hx HM
      cases hmay : may K o with
      | false =>
        have hdid : didTo K ops (k + 1) = didTo K ops k := by rw [HD.out, hmay]; simp
        have hm' := Lib.hid (show (didTo K ops (k + 1)).length = m by rw [hdid]; exact hm.out)
        rw [← hdid] at ho8
        clear hdid hmay HD hm
        go_wp2_with fail
        go_roundw
        case rel => exact ⟨k + 1, m, by omega, by go_num, (by first | exact hm' | exact trivial), by omega, ho8, hb8', by omega⟩
        case measure => simp [intOf] <;> omega
      | true =>
        have hdid : didTo K ops (k + 1) = didTo K ops k ++ [o] := by rw [HD.out, hmay]; rfl
        have hm' := Lib.hid (show (didTo K ops (k + 1)).length = m + 1 by rw [hdid, List.length_append, hm.out]; rfl)
        have HDD := Lib.hid hdid
        clear hdid hmay HD
        have cx := hx8.cells
        have hxl := hx8.lt
        have own' := ho8.alloc (.cells #[.int .i64 o.kind, .int .i64 o.key] 33)
        go_wp2_with (at_builtin; refine wpList_append_lies _ rfl _ _ _ rfl N 33 iO _ 2 16 Try.underlying58 hiO zO sO bO rfl (by omega) (.slice A7 m c7) m ((didTo K ops k).flatMap Opn.cells) rfl own' ⟨W8.heap.size, 0, none⟩ 1 1 o.cells rfl rfl (World.news_of_block (heap_alloc_new W8 _)) (Opn.cells_one _) (by omega) (by unfold maxLen; omega) (by omega) (by simp; omega) (W8.heap.size + 1) (by simp) ?_; intro g cap W12 hown2 hgrow hat hlt2)
        have own12 : W12.ownsRow N 33 2 (.slice (some ⟨g, 0, none⟩) (m + 1) cap) (m + 1) ((didTo K ops (k + 1)).flatMap Opn.cells) := by rw [HDD.out]; simpa using hown2
        have hbb12 := ((hb8'.alloc (by omega) (.cells #[.int .i64 o.kind, .int .i64 o.key] 33)).grown hgrow (by simp; omega) (fun x hx => (own_at own' x hx).1))
        have hs12 := hgrow.size
        have hs13 : W8.heap.size + 1 ≤ W12.heap.size := by simpa using hs12
        clear hown2 hgrow hat hlt2 own' ho8 hb8' hs12 HDD hm hx8 cx
        go_wp2_with fail
        go_roundw
        case rel => exact ⟨k + 1, m + 1, by omega, by go_num, (by first | exact hm' | exact trivial), by omega, own12, hbb12, by omega⟩
        case measure => simp [intOf] <;> omega
    · have dk : decide ((k : Int) < (n : Int)) = false := by simp; omega
      have hkn : k = n := by omega
      subst hkn
      rw [HDA.out] at hown
      have hm2 := hm.out
      rw [HDA.out] at hm2
      subst hm2
      obtain ⟨A7, c7, hv, hc7, -, -⟩ := own_form hown
      clear hc7
      go_wp2_with fail
      go_ret
      have hN := HN.out
      subst hN
      exact ⟨_, rfl, hown, hb⟩
end Go.Proofs.Ytboommppikfgnaa
