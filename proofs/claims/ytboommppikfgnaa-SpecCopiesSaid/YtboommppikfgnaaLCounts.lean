/- The law SpecCounts returns true, whatever the shape and the operations.
   Conditions: none. -/
import Derived.Test.YtboommppikfgnaaSAwake
namespace Go.Proofs.Ytboommppikfgnaa
open Go Go.RowKit

/-- those of the first operations that are of the shape -/
def didTo (sh : Int) (ops : List Opn) (k : Nat) : List Opn := (ops.take k).filter (may sh)
theorem didTo_may (sh : Int) (ops : List Opn) (k : Nat) : allMay sh (didTo sh ops k) := fun _ ho => of_decide_eq_true (List.mem_filter.1 ho).2
theorem didTo_len (sh : Int) (ops : List Opn) (k : Nat) : (didTo sh ops k).length ≤ k := by
  have h1 := List.length_filter_le (may sh) (ops.take k)
  have h2 := List.length_take_le k ops
  unfold didTo
  omega
theorem didTo_succ (sh : Int) (ops : List Opn) (k : Nat) (o : Opn) (h : ops[k]? = some o) : didTo sh ops (k + 1) = didTo sh ops k ++ if may sh o then [o] else [] := by
  unfold didTo
  rw [List.take_add_one, h]
  simp only [Option.toList_some, List.filter_append, List.filter_cons, List.filter_nil]
theorem didTo_items (sh : Int) (ops : List Opn) (k : Nat) (o : Opn) (h : ops[k]? = some o) : itemsOf sh (didTo sh ops (k + 1)) = spStep sh (itemsOf sh (didTo sh ops k)) o := by
  rw [didTo_succ sh ops k o h]
  unfold spStep
  cases may sh o
  · simp
  · simp only [if_true]; exact itemsOf_snoc _ _ _

theorem counts_law (sh : Int) (l : List Int) (o : Opn) : (may sh o = false ∧ (spStep sh l o).length = l.length) ∨
    (may sh o = true ∧ (spTell l o).code = 0 ∧ (((spTell l o).ok = false ∧ (spStep sh l o).length = l.length) ∨
      ((spTell l o).ok = true ∧ (((o.kind = 1 ∨ o.kind = 4) ∧ (spStep sh l o).length = l.length + 1) ∨ ((o.kind = 2 ∨ o.kind = 5) ∧ (spStep sh l o).length + 1 = l.length) ∨ (o.kind = 3 ∧ (spStep sh l o).length = l.length))))) := by
  cases hm : may sh o with
  | false => exact .inl ⟨rfl, by simp [spStep, hm]⟩
  | true =>
    refine .inr ⟨rfl, ?_⟩
    have hmp : mayP sh o.kind o.key := of_decide_eq_true hm
    have hk : o.kind = 1 ∨ o.kind = 2 ∨ o.kind = 3 ∨ o.kind = 4 ∨ o.kind = 5 := by unfold mayP at hmp; omega
    have hst : spStep sh l o = spDo sh l o := by simp [spStep, hm]
    rw [hst]
    rcases hk with hk | hk | hk | hk | hk
    · have e1 : spTell l o = .yes (!l.contains o.key) := by simp [spTell, hk]
      have e2 : spDo sh l o = if l.contains o.key then l else insAt l (below l o.key) o.key := by simp [spDo, hk]
      rw [e1, e2]
      refine ⟨rfl, ?_⟩
      cases hc : l.contains o.key
      · refine .inr ⟨rfl, .inl ⟨.inl hk, ?_⟩⟩
        simp only [Bool.false_eq_true, if_false]
        exact insAt_len l _ _ (by unfold below; exact List.countP_le_length)
      · exact .inl ⟨rfl, by simp⟩
    · have e1 : spTell l o = .yes (l.contains o.key) := by simp [spTell, hk]
      have e2 : spDo sh l o = if l.contains o.key then l.eraseIdx (below l o.key) else l := by simp [spDo, hk]
      rw [e1, e2]
      refine ⟨rfl, ?_⟩
      cases hc : l.contains o.key
      · exact .inl ⟨rfl, by simp⟩
      · refine .inr ⟨rfl, .inr (.inl ⟨.inl hk, ?_⟩)⟩
        have h := below_lt hc
        simp only [if_true]
        rw [List.length_eraseIdx, if_pos h]; omega
    · have e1 : spTell l o = .yes (l.contains o.key) := by simp [spTell, hk]
      have e2 : spDo sh l o = l := by simp [spDo, hk]
      rw [e1, e2]
      refine ⟨rfl, ?_⟩
      cases hc : l.contains o.key
      · exact .inl ⟨rfl, rfl⟩
      · exact .inr ⟨rfl, .inr (.inr ⟨hk, rfl⟩)⟩
    · have e1 : spTell l o = .yes true := by simp [spTell, hk]
      have e2 : spDo sh l o = if sh = 3 then l ++ [o.key] else o.key :: l := by simp [spDo, hk]
      rw [e1, e2]
      exact ⟨rfl, .inr ⟨rfl, .inl ⟨.inr hk, by split <;> simp⟩⟩⟩
    · have e2 : spDo sh l o = l.tail := by simp [spDo, hk]
      rw [e2]
      cases l with
      | nil => exact ⟨by simp [spTell, hk, Rsl.none_], .inl ⟨by simp [spTell, hk, Rsl.none_], rfl⟩⟩
      | cons x l => exact ⟨by simp [spTell, hk], .inr ⟨by simp [spTell, hk], .inr (.inl ⟨.inr hk, by simp⟩)⟩⟩

set_option maxRecDepth 100000 in
set_option maxHeartbeats 6400000 in
theorem law_counts (x : Int) (hx : 0 ≤ x ∧ x ≤ 255) (A : Option Addr) (n c B0 : Nat) (ops : List Opn) (w : World) (hs : Sl w B0 2 A n (ops.flatMap Opn.cells)) (hel : ops.length = n) (hB0 : B0 ≤ w.heap.size) :
    Calls Try.prog 8 #[.int .u8 x, .slice A n c] w fun e w' => e = .returned (.bool true) ∧ Below w.heap.size w w' := by
  obtain ⟨hx0, hx1⟩ := hx
  by_cases hbig : 60 < n
  · go_enter Try.func8, Try.ntmps8
    go_wp2_with fail
    refine (sawake _).mono ?_
    rintro e w1 ⟨rfl, h1⟩
    go_wp2_with fail
    go_ret
    exact ⟨rfl, h1⟩
  have hn60 : n ≤ 60 := by omega
  have hgt : decide ((60 : Int) < (n : Int)) = false := by simp; omega
  have HL := Lib.hid hel
  clear hbig hel
  go_enter Try.func8, Try.ntmps8
  go_wp2_with fail
  refine (sawake _).mono ?_
  rintro e w1 ⟨rfl, h1⟩
  go_wp2_with fail
  obtain ⟨K, hK⟩ : ∃ K, K = 1 + x % 4 := ⟨_, rfl⟩
  have hK1 : 1 ≤ K ∧ K ≤ 4 := by omega
  rw [← hK]
  clear hK
  refine (spec_New K hK1 w1).mono ?_
  rintro e w2 ⟨rfl, s2, hb2⟩
  have hw1 := h1.size
  have h2 := h1.trans (hb2.mono hw1)
  have hbl := s2.lt
  generalize hbb : w1.heap.size = b at *
  clear hbb h1 hb2
  have s2' : SAt w2 (· < b) b K (itemsOf K (didTo K ops 0)) := s2
  clear s2
  go_wp2_with fail
  go_loopw [36] (fun i wr => ∃ k : Nat, k ≤ n ∧ i = .int .i64 k ∧ SAt wr (· < b) b K (itemsOf K (didTo K ops k)) ∧ Below w.heap.size w wr ∧ b < wr.heap.size) (fun i _ => n - (intOf i).toNat)
  case atStart => exact ⟨0, by omega, rfl, s2', h2, hbl⟩
  case round =>
    obtain ⟨k, hk, rfl, hsp, hb, hBr⟩ := hrel
    by_cases hlt : k < n
    · have dk : decide ((k : Int) < (n : Int)) = true := by simp; omega
      obtain ⟨o, ho⟩ : ∃ o, ops[k]? = some o := ⟨_, List.getElem?_eq_getElem (by rw [HL.out]; exact hlt)⟩
      have hsw := hs.below (hb.mono hB0)
      have hidx := hsw.idx (P := Try.prog) (c := c) Try.underlying58 opSz hlt
      obtain ⟨f0, f1⟩ := op_cells hsw hlt ho
      have hst := didTo_items K ops k o ho
      have hil : (itemsOf K (didTo K ops k)).length ≤ 1000 := by have := itemsOf_len K (didTo K ops k); have := didTo_len K ops k; omega
      have hris := items_rise K _ (didTo_may K ops k)
      have hlaw := counts_law K (itemsOf K (didTo K ops k)) o
      rw [← hst] at hlaw
      have HS := Lib.hid hst
      have HW := Lib.hid hlaw
      clear hst ho hlaw hsw
      go_upto_region 12 with (fail)
      clear f0 f1 hidx
      have hb7 : Below wr.heap.size wr (wr.alloc (.cells #[.int .i64 o.kind, .int .i64 o.key] 33)) := (Below.refl _ _).alloc (Nat.le_refl _) _
      have hx := Blk.new wr 33 #[.int .i64 o.kind, .int .i64 o.key]
      generalize (wr.alloc (.cells #[.int .i64 o.kind, .int .i64 o.key] 33)) = W at *
      have sp7 := hsp.step hb7
      have hb' := hb.trans (hb7.mono (hb.size))
      have hws := hb7.size
      have hxl := hx.lt
      have cx := hx.cells
      clear hsp hb hb7
      generalize hX : wr.heap.size = X at *
      clear hX
      go_wp2_with fail
      refine (bag_Len sp7).mono ?_
      rintro e W' ⟨rfl, rfl⟩
      go_wp2_with fail
      refine (spec_Do o sp7 hil hris).mono ?_
      rw [← HS.out]
      rintro e w8 ⟨rfl, s8, k8⟩
      have hx8 := hx.kz k8 (.inr ⟨Nat.le_refl _, hxl⟩)
      have hb8 := hb'.trans ((k8.below (fun g hg => .inl hg) (by omega)).mono hw1)
      have hs8 := k8.size
      clear sp7 k8 cx hx hb' hris
      have hlaw := HW.out
      clear HW
      have key : ∃ (v er : Int) (ok : Bool), spRes K (itemsOf K (didTo K ops k)) o = ⟨0, ok, v⟩ ∧ spErr K o = er ∧ ((er = 1 ∧ ok = false ∧ (itemsOf K (didTo K ops (k + 1))).length = (itemsOf K (didTo K ops k)).length) ∨
          (er = 0 ∧ ok = false ∧ (itemsOf K (didTo K ops (k + 1))).length = (itemsOf K (didTo K ops k)).length) ∨
          (er = 0 ∧ ok = true ∧ (((o.kind = 1 ∨ o.kind = 4) ∧ (itemsOf K (didTo K ops (k + 1))).length = (itemsOf K (didTo K ops k)).length + 1) ∨ ((o.kind = 2 ∨ o.kind = 5) ∧ (itemsOf K (didTo K ops (k + 1))).length + 1 = (itemsOf K (didTo K ops k)).length) ∨ (o.kind = 3 ∧ (itemsOf K (didTo K ops (k + 1))).length = (itemsOf K (didTo K ops k)).length)))) := by
        rcases hlaw with ⟨hm, hl⟩ | ⟨hm, hc, hl⟩
        · exact ⟨0, 1, false, by simp [spRes, hm, Rsl.none_], by simp [spErr, hm], .inl ⟨rfl, rfl, hl⟩⟩
        · have e1 : spRes K (itemsOf K (didTo K ops k)) o = spTell (itemsOf K (didTo K ops k)) o := by simp [spRes, hm]
          have e2 : spErr K o = 0 := by simp [spErr, hm]
          refine ⟨(spTell (itemsOf K (didTo K ops k)) o).val, 0, (spTell (itemsOf K (didTo K ops k)) o).ok, ?_, e2, ?_⟩
          · rw [e1]
            generalize spTell (itemsOf K (didTo K ops k)) o = r at *
            obtain ⟨a, b, c⟩ := r
            simp only at hc
            rw [hc]
          · rcases hl with ⟨h1, h2⟩ | ⟨h1, h2⟩
            · exact .inr (.inl ⟨rfl, h1, h2⟩)
            · exact .inr (.inr ⟨rfl, h1, h2⟩)
      clear hlaw
      obtain ⟨v, er, ok, e1, e2, hcase⟩ := key
      rw [e1, e2]
      clear e1 e2
      have hlen8 := fun (W' : World) (hb : Below w8.heap.size w8 W') => bag_Len (s8.step' hb)
      have HF := Lib.hid s8
      clear s8 HS
      generalize hm' : (itemsOf K (didTo K ops (k + 1))).length = m' at *
      generalize hm : (itemsOf K (didTo K ops k)).length = m at *
      have hlen := Lib.hid hlen8
      clear hm' hm hlen8
      obtain ⟨kd, ky⟩ := o
      simp only at hcase hx8
      have cx := hx8.cells
      have hxl8 := hx8.lt
      rcases hcase with ⟨rfl, rfl, rfl⟩ | ⟨rfl, rfl, rfl⟩ | ⟨rfl, rfl, hcase⟩
      · go_upto_region 23 with (fail)
        have hb9 : Below w8.heap.size w8 (w8.alloc (.cells #[.int .i64 0, .bool false, .int .i64 v] 36)) := (Below.refl _ _).alloc (Nat.le_refl _) _
        have hy := Blk.new w8 36 #[.int .i64 0, .bool false, .int .i64 v]
        have hs9 : w8.heap.size < (w8.alloc (.cells #[.int .i64 0, .bool false, .int .i64 v] 36)).heap.size := hy.lt
        have hl9 := hlen.out _ hb9
        have hf9 := (HF.out.step' hb9).less (fun _ h => .inl h)
        have hbb := hb8.trans (hb9.mono hb8.size)
        have HL9 := Lib.hid hl9
        have HF9 := Lib.hid hf9
        clear hl9 hf9 hlen HF hb9
        generalize (w8.alloc (.cells #[.int .i64 0, .bool false, .int .i64 v] 36)) = W9 at *
        have cy := hy.cells
        clear cx hy hx8
        generalize w8.heap.size = Y at *
        go_wp2_with fail
        refine HL9.out.mono ?_
        rintro e W' ⟨rfl, rfl⟩
        go_wp2_with fail
        go_roundw
        case rel => exact ⟨k + 1, by omega, by go_num, HF9.out, hbb, by omega⟩
        case measure => simp [intOf]; omega
      · go_upto_region 23 with (fail)
        have hb9 : Below w8.heap.size w8 (w8.alloc (.cells #[.int .i64 0, .bool false, .int .i64 v] 36)) := (Below.refl _ _).alloc (Nat.le_refl _) _
        have hy := Blk.new w8 36 #[.int .i64 0, .bool false, .int .i64 v]
        have hs9 : w8.heap.size < (w8.alloc (.cells #[.int .i64 0, .bool false, .int .i64 v] 36)).heap.size := hy.lt
        have hl9 := hlen.out _ hb9
        have hf9 := (HF.out.step' hb9).less (fun _ h => .inl h)
        have hbb := hb8.trans (hb9.mono hb8.size)
        have HL9 := Lib.hid hl9
        have HF9 := Lib.hid hf9
        clear hl9 hf9 hlen HF hb9
        generalize (w8.alloc (.cells #[.int .i64 0, .bool false, .int .i64 v] 36)) = W9 at *
        have cy := hy.cells
        clear cx hy hx8
        generalize w8.heap.size = Y at *
        go_wp2_with fail
        refine HL9.out.mono ?_
        rintro e W' ⟨rfl, rfl⟩
        go_wp2_with fail
        go_roundw
        case rel => exact ⟨k + 1, by omega, by go_num, HF9.out, hbb, by omega⟩
        case measure => simp [intOf]; omega
      · rcases hcase with ⟨rfl | rfl, rfl⟩ | ⟨rfl | rfl, hmm⟩ | ⟨rfl, rfl⟩
        · go_upto_region 23 with (fail)
          have hb9 : Below w8.heap.size w8 (w8.alloc (.cells #[.int .i64 0, .bool true, .int .i64 v] 36)) := (Below.refl _ _).alloc (Nat.le_refl _) _
          have hy := Blk.new w8 36 #[.int .i64 0, .bool true, .int .i64 v]
          have hs9 : w8.heap.size < (w8.alloc (.cells #[.int .i64 0, .bool true, .int .i64 v] 36)).heap.size := hy.lt
          have hl9 := hlen.out _ hb9
          have hf9 := (HF.out.step' hb9).less (fun _ h => .inl h)
          have hbb := hb8.trans (hb9.mono hb8.size)
          have HL9 := Lib.hid hl9
          have HF9 := Lib.hid hf9
          clear hl9 hf9 hlen HF hb9
          generalize (w8.alloc (.cells #[.int .i64 0, .bool true, .int .i64 v] 36)) = W9 at *
          have cy := hy.cells
          clear cx hy hx8
          generalize w8.heap.size = Y at *
          go_wp2_with fail
          refine HL9.out.mono ?_
          rintro e W' ⟨rfl, rfl⟩
          go_wp2_with fail
          go_roundw
          case rel => exact ⟨k + 1, by omega, by go_num, HF9.out, hbb, by omega⟩
          case measure => simp [intOf]; omega
        · go_upto_region 23 with (fail)
          have hb9 : Below w8.heap.size w8 (w8.alloc (.cells #[.int .i64 0, .bool true, .int .i64 v] 36)) := (Below.refl _ _).alloc (Nat.le_refl _) _
          have hy := Blk.new w8 36 #[.int .i64 0, .bool true, .int .i64 v]
          have hs9 : w8.heap.size < (w8.alloc (.cells #[.int .i64 0, .bool true, .int .i64 v] 36)).heap.size := hy.lt
          have hl9 := hlen.out _ hb9
          have hf9 := (HF.out.step' hb9).less (fun _ h => .inl h)
          have hbb := hb8.trans (hb9.mono hb8.size)
          have HL9 := Lib.hid hl9
          have HF9 := Lib.hid hf9
          clear hl9 hf9 hlen HF hb9
          generalize (w8.alloc (.cells #[.int .i64 0, .bool true, .int .i64 v] 36)) = W9 at *
          have cy := hy.cells
          clear cx hy hx8
          generalize w8.heap.size = Y at *
          go_wp2_with fail
          refine HL9.out.mono ?_
          rintro e W' ⟨rfl, rfl⟩
          go_wp2_with fail
          go_roundw
          case rel => exact ⟨k + 1, by omega, by go_num, HF9.out, hbb, by omega⟩
          case measure => simp [intOf]; omega
        · have t1 : ((m' : Int) != (m : Int) - 1) = false := by simp; omega
          have t2 : ((m' : Int) != (m : Int) + -1) = false := by simp; omega
          have t3 : 1 ≤ (m : Int) := by omega
          have t4 : (m' : Int) + 1 ≤ 1000 := by omega
          clear hmm
          go_upto_region 23 with (fail)
          have hb9 : Below w8.heap.size w8 (w8.alloc (.cells #[.int .i64 0, .bool true, .int .i64 v] 36)) := (Below.refl _ _).alloc (Nat.le_refl _) _
          have hy := Blk.new w8 36 #[.int .i64 0, .bool true, .int .i64 v]
          have hs9 : w8.heap.size < (w8.alloc (.cells #[.int .i64 0, .bool true, .int .i64 v] 36)).heap.size := hy.lt
          have hl9 := hlen.out _ hb9
          have hf9 := (HF.out.step' hb9).less (fun _ h => .inl h)
          have hbb := hb8.trans (hb9.mono hb8.size)
          have HL9 := Lib.hid hl9
          have HF9 := Lib.hid hf9
          clear hl9 hf9 hlen HF hb9
          generalize (w8.alloc (.cells #[.int .i64 0, .bool true, .int .i64 v] 36)) = W9 at *
          have cy := hy.cells
          clear cx hy hx8
          generalize w8.heap.size = Y at *
          go_wp2_with fail
          refine HL9.out.mono ?_
          rintro e W' ⟨rfl, rfl⟩
          go_wp2_with fail
          go_roundw
          case rel => exact ⟨k + 1, by omega, by go_num, HF9.out, hbb, by omega⟩
          case measure => simp [intOf]; omega
        · have t1 : ((m' : Int) != (m : Int) - 1) = false := by simp; omega
          have t2 : ((m' : Int) != (m : Int) + -1) = false := by simp; omega
          have t3 : 1 ≤ (m : Int) := by omega
          have t4 : (m' : Int) + 1 ≤ 1000 := by omega
          clear hmm
          go_upto_region 23 with (fail)
          have hb9 : Below w8.heap.size w8 (w8.alloc (.cells #[.int .i64 0, .bool true, .int .i64 v] 36)) := (Below.refl _ _).alloc (Nat.le_refl _) _
          have hy := Blk.new w8 36 #[.int .i64 0, .bool true, .int .i64 v]
          have hs9 : w8.heap.size < (w8.alloc (.cells #[.int .i64 0, .bool true, .int .i64 v] 36)).heap.size := hy.lt
          have hl9 := hlen.out _ hb9
          have hf9 := (HF.out.step' hb9).less (fun _ h => .inl h)
          have hbb := hb8.trans (hb9.mono hb8.size)
          have HL9 := Lib.hid hl9
          have HF9 := Lib.hid hf9
          clear hl9 hf9 hlen HF hb9
          generalize (w8.alloc (.cells #[.int .i64 0, .bool true, .int .i64 v] 36)) = W9 at *
          have cy := hy.cells
          clear cx hy hx8
          generalize w8.heap.size = Y at *
          go_wp2_with fail
          refine HL9.out.mono ?_
          rintro e W' ⟨rfl, rfl⟩
          go_wp2_with fail
          go_roundw
          case rel => exact ⟨k + 1, by omega, by go_num, HF9.out, hbb, by omega⟩
          case measure => simp [intOf]; omega
        · go_upto_region 23 with (fail)
          have hb9 : Below w8.heap.size w8 (w8.alloc (.cells #[.int .i64 0, .bool true, .int .i64 v] 36)) := (Below.refl _ _).alloc (Nat.le_refl _) _
          have hy := Blk.new w8 36 #[.int .i64 0, .bool true, .int .i64 v]
          have hs9 : w8.heap.size < (w8.alloc (.cells #[.int .i64 0, .bool true, .int .i64 v] 36)).heap.size := hy.lt
          have hl9 := hlen.out _ hb9
          have hf9 := (HF.out.step' hb9).less (fun _ h => .inl h)
          have hbb := hb8.trans (hb9.mono hb8.size)
          have HL9 := Lib.hid hl9
          have HF9 := Lib.hid hf9
          clear hl9 hf9 hlen HF hb9
          generalize (w8.alloc (.cells #[.int .i64 0, .bool true, .int .i64 v] 36)) = W9 at *
          have cy := hy.cells
          clear cx hy hx8
          generalize w8.heap.size = Y at *
          go_wp2_with fail
          refine HL9.out.mono ?_
          rintro e W' ⟨rfl, rfl⟩
          go_wp2_with fail
          go_roundw
          case rel => exact ⟨k + 1, by omega, by go_num, HF9.out, hbb, by omega⟩
          case measure => simp [intOf]; omega
    · have dk : decide ((k : Int) < (n : Int)) = false := by simp; omega
      go_wp2_with fail
      go_ret
      exact ⟨rfl, hb⟩
end Go.Proofs.Ytboommppikfgnaa
