/- Contracts of Spec.Do, Copy, Same, and of Play.
   Conditions: at most 1000 items, at most 100 operations. -/
import Derived.Test.YtboommppikfgnaaSDo
import Derived.Deep.Cut
import Derived.Deep.DeepCutAuto
namespace Go.Proofs.Ytboommppikfgnaa
open Go Go.RowKit

theorem opSz : (Try.prog.info? 33).map (·.size) = some 2 := by kernel_rfl
theorem info_Res : (Try.prog.info? 36).map (fun i => (i.zero, i.size, i.bytes)) = some (some (.agg #[.int .i64 0, .bool false, .int .i64 0]), 3, 24) := by kernel_rfl
theorem Rsl.cells_len (r : Rsl) : r.cells.length = 3 := rfl
theorem Rsl.cells_one (r : Rsl) : ∀ u ∈ r.cells, u.oneCell' = true := by
  intro u hu
  simp only [Rsl.cells, List.mem_cons, List.not_mem_nil, or_false] at hu
  rcases hu with rfl | rfl | rfl <;> rfl
/-- the cells of operation k -/
theorem op_cells {w : World} {B n : Nat} {A : Option Addr} {ops : List Opn} (h : Sl w B 2 A n (ops.flatMap Opn.cells)) {k : Nat} {o : Opn} (hk : k < n) (he : ops[k]? = some o) :
    w.cell? ⟨ablk A, aoff A + k * 2, none⟩ = some (.int .i64 o.kind) ∧ w.cell? ⟨ablk A, aoff A + k * 2 + 1, none⟩ = some (.int .i64 o.key) := by
  have key : ∀ i, i < 2 → w.cell? ⟨ablk A, aoff A + k * 2 + i, none⟩ = o.cells[i]? := fun i hi => by
    rw [h.at_ hk hi, flat_at Opn.cells 2 Opn.cells_len ops k i o he hi]
  exact ⟨key 0 (by omega), key 1 (by omega)⟩
theorem res_cells {w : World} {B n : Nat} {A : Option Addr} {rs : List Rsl} (h : Sl w B 3 A n (rs.flatMap Rsl.cells)) {k : Nat} {r : Rsl} (hk : k < n) (he : rs[k]? = some r) :
    w.cell? ⟨ablk A, aoff A + k * 3, none⟩ = some (.int .i64 r.code) ∧ w.cell? ⟨ablk A, aoff A + k * 3 + 1, none⟩ = some (.bool r.ok) ∧ w.cell? ⟨ablk A, aoff A + k * 3 + 2, none⟩ = some (.int .i64 r.val) := by
  have key : ∀ i, i < 3 → w.cell? ⟨ablk A, aoff A + k * 3 + i, none⟩ = r.cells[i]? := fun i hi => by
    rw [h.at_ hk hi, flat_at Rsl.cells 3 Rsl.cells_len rs k i r he hi]
  exact ⟨key 0 (by omega), key 1 (by omega), key 2 (by omega)⟩

section
variable {Z : Nat → Prop} {b : Nat} {sh : Int} {items : List Int} {w : World}
/-- Do, whatever the operation -/
theorem spec_Do (o : Opn) (h : SAt w Z b sh items) (hl : items.length ≤ 1000) (hrs : sh = 1 ∨ sh = 2 → rises items) :
    Calls Try.prog 33 #[.pointer (some ⟨b, 0, none⟩), .agg #[.int .i64 o.kind, .int .i64 o.key]] w fun e w' =>
      e = .returned (.tuple #[.agg #[.int .i64 (spRes sh items o).code, .bool (spRes sh items o).ok, .int .i64 (spRes sh items o).val], .int .i64 (spErr sh o)]) ∧ SAt w' Z b sh (spStep sh items o) ∧ Kz Z w w' := by
  cases hm : may sh o with
  | true =>
    refine (spec_Do_yes o.kind o.key h hl hrs hm).mono fun e w' ⟨he, hs, hk⟩ => ?_
    simp only [spRes, spErr, spStep, hm, if_true]
    exact ⟨he, hs, hk⟩
  | false =>
    refine (spec_Do_no o.kind o.key h hm).mono fun e w' ⟨he, hs, hk⟩ => ?_
    simp only [spRes, spErr, spStep, hm, Bool.false_eq_true, if_false]
    exact ⟨he, hs, hk⟩

set_option maxRecDepth 100000 in
set_option maxHeartbeats 1600000 in
theorem spec_Copy (h : SAt w Z b sh items) (hl : items.length ≤ 1000) : Calls Try.prog 43 #[.pointer (some ⟨b, 0, none⟩)] w fun e w' =>
    ∃ g, e = .returned (.pointer (some ⟨g, 0, none⟩)) ∧ SAt w' (· < w.heap.size) g sh items ∧ Below w.heap.size w w' := by
  have h0 := h
  obtain ⟨v, h1, h2, -, -⟩ := h0.at_
  clear h0
  have qb := Later.cells h1 h1.lt
  go_enter Try.func43, Try.ntmps43
  go_wp2_with fail
  refine wp_region_ph (fun w' => ∃ q : Later w.heap.size w, w' = q.val) 10 [([0, 1, 2, 5, 6, 7, 8], 3)] [4, 9] [10, 11] (by kernel_rfl) (by kernel_rfl) (Later.mk_ (Below.refl _ _).drew) ?_
  refine wpPh_cons ?_
  simp only [opsAt, List.map_cons, List.map_nil, List.getD_cons_zero, List.getD_cons_succ]
  repeat (go_big_quiet_step (fail))
  refine wpQuiet_nil ?_
  refine wpPh_op rfl (fun K hK => ?_)
  go_simp
  refine (bag_Items (h.step' (Below.refl _ _).drew) hl).mono ?_
  rintro e w1 ⟨v1, rfl, ho, hb⟩
  have hb1 : Below w.heap.size w w1 := (Below.refl _ _).drew.trans hb
  obtain ⟨A1, c1, rfl, -, -, -⟩ := own_form ho
  refine hK _ _ (Later.mk_ hb1) ?_
  clear hK K hb
  refine wpPh_nil ?_
  repeat (go_big_quiet_step (fail))
  refine wpQuiet_nil ?_
  refine wpTail_late _ _ _ (by kernel_rfl) ?_
  clear qb h1 h2 h
  go_wp2_with fail
  refine NoPanic.normal ?_
  go_wp2_with fail
  go_ret
  have hs1 := hb1.size
  refine ⟨_, rfl, ⟨fun k hk => by simp; omega, _, Blk.new _ _ _, ?_, by omega, fun g hg => ?_⟩, hb1.alloc (by omega) _⟩
  · exact own_step (own_mono ho (Nat.zero_le _)) ((Below.refl _ _).alloc (Nat.le_refl _) _)
  · have : w.heap.size ≤ g := (own_at ho g hg).1; omega

set_option maxRecDepth 100000 in
set_option maxHeartbeats 3200000 in
theorem spec_Same {Z2 : Nat → Prop} {b2 : Nat} {sh2 : Int} {items2 : List Int} (h : SAt w Z b sh items) (h' : SAt w Z2 b2 sh2 items2) (hl : items.length ≤ 1000) (hl2 : items2.length ≤ 1000) :
    Calls Try.prog 44 #[.pointer (some ⟨b, 0, none⟩), .pointer (some ⟨b2, 0, none⟩)] w fun e w' => e = .returned (.bool (decide (sh = sh2) && items == items2)) ∧ Below w.heap.size w w' := by
  obtain ⟨v, h1, h2, -, -⟩ := h.at_
  obtain ⟨v2, g1, g2, -, -⟩ := h'.at_
  have heq := fun (w2 : World) (hb : Below w.heap.size w w2) => equal_own v v2 items items2 w2 (own_step h2 hb) (own_step g2 hb) (by omega) (by omega)
  obtain ⟨A, c, rfl, -, -, -⟩ := own_form h2
  obtain ⟨A2, c2, rfl, -, -, -⟩ := own_form g2
  have qb := Later.cells h1 h1.lt
  have qb2 := Later.cells g1 g1.lt
  clear h h' h1 h2 g1 g2
  by_cases hsh : sh = sh2
  · have e1 : (sh == sh2) = true := by simpa using hsh
    have HF := Lib.hid (show decide (sh = sh2) = true by simpa using hsh)
    clear hsh
    go_enter Try.func44, Try.ntmps44
    go_wp2_with fail
    refine wp_region_ph (fun w' => ∃ q : Later w.heap.size w, w' = q.val) 24 [] [0, 1, 2, 3, 4, 5, 6, 7, 8, 9, 10, 11, 12, 13, 14, 15, 16, 17, 18, 19, 20, 21, 22, 23] [24, 25, 26] (by kernel_rfl) (by kernel_rfl) (Later.mk_ (Below.refl _ _).drew) ?_
    refine wpPh_nil ?_
    simp only [opsAt, List.map_cons, List.map_nil, List.getD_cons_zero, List.getD_cons_succ]
    repeat (go_big_quiet_step (fail))
    refine wpQuiet_nil ?_
    refine wpTail_late _ _ _ (by kernel_rfl) ?_
    simp only [opsAt, List.map_cons, List.map_nil, List.getD_cons_zero, List.getD_cons_succ]
    clear qb qb2
    go_wp2_with fail
    refine (heq _ (Below.refl _ _).drew).mono ?_
    rintro e w1 ⟨rfl, hb⟩
    go_wp2_with fail
    refine NoPanic.normal ?_
    go_wp2_with fail
    go_ret
    exact ⟨by rw [HF.out]; rfl, (Below.refl _ _).drew.trans hb⟩
  · have e1 : (sh == sh2) = false := by simpa using hsh
    have HF := Lib.hid (show decide (sh = sh2) = false by simpa using hsh)
    clear hsh
    go_enter Try.func44, Try.ntmps44
    go_wp2_with fail
    refine wp_region_ph (fun w' => ∃ q : Later w.heap.size w, w' = q.val) 24 [] [0, 1, 2, 3, 4, 5, 6, 7, 8, 9, 10, 11, 12, 13, 14, 15, 16, 17, 18, 19, 20, 21, 22, 23] [24, 25, 26] (by kernel_rfl) (by kernel_rfl) (Later.mk_ (Below.refl _ _).drew) ?_
    refine wpPh_nil ?_
    simp only [opsAt, List.map_cons, List.map_nil, List.getD_cons_zero, List.getD_cons_succ]
    repeat (go_big_quiet_step (fail))
    refine wpQuiet_nil ?_
    refine wpTail_late _ _ _ (by kernel_rfl) ?_
    simp only [opsAt, List.map_cons, List.map_nil, List.getD_cons_zero, List.getD_cons_succ]
    clear qb qb2
    go_wp2_with fail
    refine NoPanic.normal ?_
    go_wp2_with fail
    go_ret
    exact ⟨by rw [HF.out]; rfl, (Below.refl _ _).drew⟩
set_option maxRecDepth 100000 in
set_option maxHeartbeats 1600000 in
theorem spec_Same_nil (p : Option Addr) : Calls Try.prog 44 #[.pointer p, .pointer none] w fun e w' => e = .returned (.bool false) ∧ Below w.heap.size w w' := by
  go_enter Try.func44, Try.ntmps44
  go_wp2_with fail
  refine wp_region_ph (fun w' => ∃ q : Later w.heap.size w, w' = q.val) 24 [] [0, 1, 2, 3, 4, 5, 6, 7, 8, 9, 10, 11, 12, 13, 14, 15, 16, 17, 18, 19, 20, 21, 22, 23] [24, 25, 26] (by kernel_rfl) (by kernel_rfl) (Later.mk_ (Below.refl _ _).drew) ?_
  refine wpPh_nil ?_
  simp only [opsAt, List.map_cons, List.map_nil, List.getD_cons_zero, List.getD_cons_succ]
  repeat (go_big_quiet_step (fail))
  refine wpQuiet_nil ?_
  refine wpTail_late _ _ _ (by kernel_rfl) ?_
  simp only [opsAt, List.map_cons, List.map_nil, List.getD_cons_zero, List.getD_cons_succ]
  go_wp2_with fail
  refine NoPanic.normal ?_
  go_wp2_with fail
  go_ret
  exact ⟨rfl, (Below.refl _ _).drew⟩
end
/-- what is told, one by one -/
def playG (sh : Int) (l : List Opn) : List Int × List Rsl := l.foldl (fun p o => (spDo sh p.1 o, p.2 ++ [spTell p.1 o])) ([], [])
def tellsOf (sh : Int) (l : List Opn) : List Rsl := (playG sh l).2
theorem playG_snoc (sh : Int) (l : List Opn) (o : Opn) : playG sh (l ++ [o]) = (spDo sh (playG sh l).1 o, (playG sh l).2 ++ [spTell (playG sh l).1 o]) := by simp [playG, List.foldl_append]
theorem playG_fst (sh : Int) (l : List Opn) : (playG sh l).1 = itemsOf sh l := by
  induction l using snocRec with
  | nil => rfl
  | snoc l o ih => rw [playG_snoc, itemsOf_snoc, ih]
theorem tells_snoc (sh : Int) (l : List Opn) (o : Opn) : tellsOf sh (l ++ [o]) = tellsOf sh l ++ [spTell (itemsOf sh l) o] := by
  unfold tellsOf; rw [playG_snoc, playG_fst]
theorem tells_len (sh : Int) (l : List Opn) : (tellsOf sh l).length = l.length := by
  induction l using snocRec with
  | nil => rfl
  | snoc l o ih => rw [tells_snoc]; simp [ih]
theorem tells_at (sh : Int) (l : List Opn) (i : Nat) (o : Opn) (h : l[i]? = some o) : (tellsOf sh l)[i]? = some (spTell (itemsOf sh (l.take i)) o) := by
  induction l using snocRec with
  | nil => simp at h
  | snoc l x ih =>
    rw [tells_snoc]
    by_cases hi : i < l.length
    · rw [List.getElem?_append_left hi] at h
      rw [List.getElem?_append_left (by rw [tells_len]; exact hi), List.take_append_of_le_length (by omega)]
      exact ih h
    · rw [List.getElem?_append_right (by omega)] at h
      have : i = l.length := by
        have := (List.getElem?_eq_some_iff.1 h).1
        simp at this; omega
      subst this
      simp at h
      subst h
      rw [List.getElem?_append_right (by rw [tells_len]; exact Nat.le_refl _), tells_len]
      simp
theorem items_rise (sh : Int) (did : List Opn) (h : allMay sh did) : sh = 1 ∨ sh = 2 → rises (itemsOf sh did) := fun hs => by
  rw [items_set sh hs did h]; exact set_rises did

theorem SAt.rowGrown {w w' : World} {b N : Nat} {sh : Int} {items : List Int} {v v' : Value} {e : TypeId} {size n : Nat} {xs : List Value} (h : SAt w (fun k => k < N ∨ v.ownBlock = some k) b sh items) (hN : N ≤ w.heap.size) (hg : w.grownBy w' v.ownBlock)
    (hv : v.ownBlock = v'.ownBlock ∨ v'.ownBlock = some w.heap.size) (ho : w'.ownsRow N e size v' n xs) : SAt w' (fun k => k < N ∨ v'.ownBlock = some k) b sh items := by
  obtain ⟨u, h1, h2, h3, h4⟩ := h.at_
  have hk : Kz (fun k => v.ownBlock ≠ some k) w w' := ⟨hg.os, hg.tape, hg.output, hg.size, fun k hk hl => hg.block k hl (fun e => hk e.symm)⟩
  refine ⟨fun k hk => ?_, u, h1.kz hk (fun e => h3 (.inr e)), own_kz h2 hk (fun g hg' e => h4 g hg' (.inr e)), fun hh => ?_, fun g hg' hh => ?_⟩
  · rcases hk with hk | hk
    · have := hg.size; omega
    · obtain ⟨_, cs, h'⟩ := own_at ho k hk; exact h'.lt
  · rcases hh with hh | hh
    · exact h3 (.inl hh)
    · rcases hv with hv | hv
      · exact h3 (.inr (by rw [hv]; exact hh))
      · rw [hv] at hh; injection hh with hh; have := h1.lt; omega
  · rcases hh with hh | hh
    · exact h4 g hg' (.inl hh)
    · rcases hv with hv | hv
      · exact h4 g hg' (.inr (by rw [hv]; exact hh))
      · rw [hv] at hh; injection hh with hh
        obtain ⟨_, cs, h'⟩ := own_at h2 g hg'
        have := h'.lt; omega

theorem spec_Play_none (sh : Int) (hs : sh < 1 ∨ 4 < sh) (v : Value) (w : World) : Calls Try.prog 40 #[.int .i64 sh, v] w fun e w' =>
    e = .returned (.tuple #[.slice none 0 0, .pointer none, .int .i64 1]) ∧ w' = w := by
  go_enter Try.func40, Try.ntmps40
  go_wp2_with fail
  refine (spec_New_none sh hs w).mono ?_
  rintro e w1 ⟨rfl, rfl⟩
  go_wp2_with fail
  go_ret3
  exact ⟨rfl, rfl⟩

set_option maxRecDepth 100000 in
set_option maxHeartbeats 3200000 in
theorem spec_Play (sh : Int) (hs : 1 ≤ sh ∧ sh ≤ 4) (A : Option Addr) (n c B0 : Nat) (ops : List Opn) (w : World) (h : Sl w B0 2 A n (ops.flatMap Opn.cells)) (hB : B0 ≤ w.heap.size) (hel : ops.length = n) (hn : n ≤ 100) :
    Calls Try.prog 40 #[.int .i64 sh, .slice A n c] w fun e w' =>
      (allMay sh ops ∧ ∃ v g, e = .returned (.tuple #[v, .pointer (some ⟨g, 0, none⟩), .int .i64 0]) ∧ SAt w' (fun k => k < w.heap.size ∨ v.ownBlock = some k) g sh (itemsOf sh ops) ∧
        w'.ownsRow w.heap.size 36 3 v n ((tellsOf sh ops).flatMap Rsl.cells) ∧ Below w.heap.size w w') ∨
      (¬ allMay sh ops ∧ e = .returned (.tuple #[.slice none 0 0, .pointer none, .int .i64 1]) ∧ Below w.heap.size w w') := by
  obtain ⟨iR, hiR, zR, sR, bR⟩ := info_parts info_Res
  have HL := Lib.hid hel
  go_enter Try.func40, Try.ntmps40
  go_wp2_with fail
  refine (spec_New sh hs w).mono ?_
  rintro e w1 ⟨rfl, s1, hb1⟩
  have hbn : w.heap.size < w1.heap.size := s1.lt
  go_wp2_with fail
  generalize hbd : w.heap.size = b at *
  have HBD := Lib.hid hbd
  clear hbd hel
  have hs0 : SAt w1 (fun k => k < b ∨ (Value.slice none 0 0).ownBlock = some k) b sh (itemsOf sh (ops.take 0)) := s1.less (fun k hk => by rcases hk with hk | hk; exact hk; simp [Value.ownBlock] at hk)
  clear s1
  go_loopw [24, 9] (fun i out wr => ∃ k : Nat, k ≤ n ∧ i = .int .i64 k ∧ allMay sh (ops.take k) ∧ SAt wr (fun x => x < b ∨ out.ownBlock = some x) b sh (itemsOf sh (ops.take k)) ∧ wr.ownsRow b 36 3 out k ((tellsOf sh (ops.take k)).flatMap Rsl.cells) ∧ Below b w wr ∧ b < wr.heap.size) (fun i _ _ => n - (intOf i).toNat)
  case atStart => exact ⟨0, by omega, rfl, fun o ho => by simp at ho, hs0, World.ownsRow_nil _ _ _ _, hb1, hbn⟩
  case round =>
    obtain ⟨k, hk, rfl, hall, hsp, hown, hb, hBr⟩ := hrel
    by_cases hlt : k < n
    · have dk : decide ((k : Int) < (n : Int)) = true := by simp; omega
      obtain ⟨o, ho⟩ : ∃ o, ops[k]? = some o := ⟨_, List.getElem?_eq_getElem (by rw [HL.out]; exact hlt)⟩
      have htk : ops.take (k + 1) = ops.take k ++ [o] := by rw [List.take_add_one, ho]; rfl
      have hsw := h.below (hb.mono hB)
      have hidx := hsw.idx (P := Try.prog) (c := c) Try.underlying58 opSz hlt
      obtain ⟨f0, f1⟩ := op_cells hsw hlt ho
      have hil : (itemsOf sh (ops.take k)).length ≤ 1000 := by have := itemsOf_len sh (ops.take k); have := List.length_take_le k ops; omega
      have hris := items_rise sh _ hall
      have HT := Lib.hid htk
      have HA := Lib.hid hall
      clear htk hall ho
      go_upto_region 8 with (fail)
      clear f0 f1 hidx
      have hb7 : Below wr.heap.size wr (wr.alloc (.cells #[.int .i64 o.kind, .int .i64 o.key] 33)) := (Below.refl _ _).alloc (Nat.le_refl _) _
      have hx := Blk.new wr 33 #[.int .i64 o.kind, .int .i64 o.key]
      generalize (wr.alloc (.cells #[.int .i64 o.kind, .int .i64 o.key] 33)) = W at *
      have sp7 := hsp.step' hb7
      have ho7 := own_step hown hb7
      have hb' := hb.trans (hb7.mono (by omega))
      have hws := hb7.size
      have cx := hx.cells
      clear hsp hown hb hb7
      go_wp2_with fail
      refine (spec_Do o sp7 hil hris).mono ?_
      rintro e w8 ⟨rfl, s8, k8⟩
      have ho8 : w8.ownsRow b 36 3 u9 k ((tellsOf sh (ops.take k)).flatMap Rsl.cells) := own_kz ho7 k8 (fun g hg => .inr hg)
      have hb8 := hb'.trans (k8.below (fun g hg => .inl hg) (by omega))
      have hs8 := k8.size
      clear sp7 ho7 k8 cx hx hb'
      cases hm : may sh o with
      | false =>
        have he : spErr sh o = 1 := by simp [spErr, hm]
        have hno : ¬ allMay sh ops := fun hh => by
          have h1 : o ∈ ops := by
            have h2 : o ∈ ops.take (k + 1) := by rw [HT.out]; simp
            exact List.mem_of_mem_take h2
          have := hh o h1
          unfold may at hm
          simp [this] at hm
        rw [he]
        clear he hm
        go_wp2_with fail
        go_ret3
        have hbd := HBD.out
        subst hbd
        exact .inr ⟨hno, rfl, hb8.alloc (by omega) _⟩
      | true =>
        have he : spErr sh o = 0 := by simp [spErr, hm]
        have hst : spStep sh (itemsOf sh (ops.take k)) o = itemsOf sh (ops.take (k + 1)) := by rw [HT.out, itemsOf_snoc]; simp [spStep, hm]
        have htl : tellsOf sh (ops.take (k + 1)) = tellsOf sh (ops.take k) ++ [spRes sh (itemsOf sh (ops.take k)) o] := by rw [HT.out, tells_snoc]; simp [spRes, hm]
        have hall' : allMay sh (ops.take (k + 1)) := by rw [HT.out]; exact allMay_snoc HA.out (of_decide_eq_true hm)
        rw [he]
        rw [hst] at s8
        have HTL := Lib.hid htl
        have HA' := Lib.hid hall'
        clear he hm hst htl hall' HA HT
        generalize spRes sh (itemsOf sh (ops.take k)) o = r at *
        obtain ⟨A9, c9, rfl, -, -, -⟩ := own_form ho8
        go_upto_region 11 with (fail)
        have hb9 : Below w8.heap.size w8 ((w8.alloc (.cells #[.int .i64 r.code, .bool r.ok, .int .i64 r.val] 36)).alloc (.cells #[.int .i64 r.code, .bool r.ok, .int .i64 r.val] 36)) := ((Below.refl _ _).alloc (Nat.le_refl _) _).alloc (by simp) _
        have hy := Blk.newAt (w8.alloc (.cells #[.int .i64 r.code, .bool r.ok, .int .i64 r.val] 36)) 36 #[.int .i64 r.code, .bool r.ok, .int .i64 r.val] (g := w8.heap.size + 1) (by simp)
        have s9 := s8.step' hb9
        have ho9 := own_step ho8 hb9
        have hws9 : ((w8.alloc (.cells #[.int .i64 r.code, .bool r.ok, .int .i64 r.val] 36)).alloc (.cells #[.int .i64 r.code, .bool r.ok, .int .i64 r.val] 36)).heap.size = w8.heap.size + 1 + 1 := by simp
        have hH := Lib.hid hws9
        clear hws9
        go_wp2_with (at_builtin; refine wpList_append_lies _ rfl _ _ _ rfl b 36 iR _ 3 24 Try.underlying76 hiR zR sR bR rfl (by omega) (.slice A9 k c9) k ((tellsOf sh (ops.take k)).flatMap Rsl.cells) rfl ho9 ⟨w8.heap.size + 1, 0, none⟩ 1 1 r.cells rfl rfl (World.news_of_block hy) (Rsl.cells_one _) (by omega) (by unfold maxLen; omega) (by omega) (by rw [hH.out]; omega) _ hH.out ?_; intro g cap w11 hown2 hgrow hat hlt2)
        have hown' : w11.ownsRow b 36 3 (.slice (some ⟨g, 0, none⟩) (k + 1) cap) (k + 1) ((tellsOf sh (ops.take (k + 1))).flatMap Rsl.cells) := by rw [HTL.out]; simpa using hown2
        have sfin : SAt w11 (fun x => x < b ∨ (Value.slice (some ⟨g, 0, none⟩) (k + 1) cap).ownBlock = some x) b sh (itemsOf sh (ops.take (k + 1))) := s9.rowGrown (by rw [hH.out]; omega) hgrow (by
          rcases hat with h | h
          · exact .inl h
          · exact .inr (by rw [hH.out, h]; rfl)) hown'
        have hb11 := (hb8.trans (hb9.mono (by omega))).grown hgrow (by rw [hH.out]; omega) (fun x hx => (own_at ho9 x hx).1)
        have hs11 := hgrow.size
        rw [hH.out] at hs11
        clear hown2 hgrow hat hlt2 ho9 s9 hy hb9 hH s8 ho8 hb8
        go_wp2_with fail
        go_roundw
        case rel => exact ⟨k + 1, by omega, by go_num, HA'.out, sfin, hown', hb11, by omega⟩
        case measure => simp [intOf]; omega
    · have dk : decide ((k : Int) < (n : Int)) = false := by simp; omega
      have hkn : k = n := by omega
      subst hkn
      have htk : ops.take k = ops := List.take_of_length_le (by rw [HL.out]; exact Nat.le_refl _)
      rw [htk] at hall hsp hown
      clear htk hk
      go_wp2_with fail
      go_ret3
      have hbd := HBD.out
      subst hbd
      exact .inl ⟨hall, _, _, rfl, hsp, hown, hb⟩
end Go.Proofs.Ytboommppikfgnaa
