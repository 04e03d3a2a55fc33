/- Contracts of Spec.Do, Copy, Same, and of Play.
   Conditions: at most 1000 items, at most 100 operations. -/
import Derived.Test.YtboommppikfgnaaDoorSDo
import Derived.Deep.Cut
import Derived.Deep.DeepCutAuto
namespace Go.Proofs.YtboommppikfgnaaDoor
open Go Go.RowKit

theorem opSz : (Tryd.prog.info? 43).map (·.size) = some 2 := by kernel_rfl
theorem info_Res : (Tryd.prog.info? 50).map (fun i => (i.zero, i.size, i.bytes)) = some (some (.agg #[.int .i64 0, .bool false, .int .i64 0]), 3, 24) := by kernel_rfl
theorem Rsl.cells_len (r : Rsl) : r.cells.length = 3 := rfl
theorem Rsl.cells_one (r : Rsl) : ∀ u ∈ r.cells, u.oneCell' = true := by
  intro u hu
  simp only [Rsl.cells, List.mem_cons, List.not_mem_nil, or_false] at hu
  rcases hu with rfl | rfl | rfl <;> rfl
/-- the cells of operation k -/
theorem op_cells {w : World} {B n : Nat} {A : Option Addr} {ops : List Opn} (h : Sl w B 2 A n (ops.flatMap Opn.cells)) {k : Nat} {o : Opn} (hk : k < n) (he : ops[k]? = some o) :
    w.cell? ⟨ablk A, aoff A + k * 2, none⟩ = some (.int .i64 o.kind) ∧ w.cell? ⟨ablk A, aoff A + k * 2 + 1, none⟩ = some (.int .i64 o.key) := by
  have key : ∀ i, i < 2 → w.cell? ⟨ablk A, aoff A + k * 2 + i, none⟩ = o.cells[i]? := fun i hi => by
    rw [h.at_ hk hi, flat_at Opn.cells 2 Opn.cells_len ops k i o he hi]
  exact ⟨key 0 (by omega), key 1 (by omega)⟩
theorem res_cells {w : World} {B n : Nat} {A : Option Addr} {rs : List Rsl} (h : Sl w B 3 A n (rs.flatMap Rsl.cells)) {k : Nat} {r : Rsl} (hk : k < n) (he : rs[k]? = some r) :
    w.cell? ⟨ablk A, aoff A + k * 3, none⟩ = some (.int .i64 r.code) ∧ w.cell? ⟨ablk A, aoff A + k * 3 + 1, none⟩ = some (.bool r.ok) ∧ w.cell? ⟨ablk A, aoff A + k * 3 + 2, none⟩ = some (.int .i64 r.val) := by
  have key : ∀ i, i < 3 → w.cell? ⟨ablk A, aoff A + k * 3 + i, none⟩ = r.cells[i]? := fun i hi => by
    rw [h.at_ hk hi, flat_at Rsl.cells 3 Rsl.cells_len rs k i r he hi]
  exact ⟨key 0 (by omega), key 1 (by omega), key 2 (by omega)⟩

section
variable {Z : Nat → Prop} {b : Nat} {sh : Int} {items : List Int} {w : World}
/-- Do, whatever the operation -/
theorem spec_Do (o : Opn) (h : SAt w Z b sh items) (hl : items.length ≤ 1000) (hrs : sh = 1 ∨ sh = 2 → rises items) :
    Calls Tryd.prog 53 #[.pointer (some ⟨b, 0, none⟩), .agg #[.int .i64 o.kind, .int .i64 o.key]] w fun e w' =>
      e = .returned (.tuple #[.agg #[.int .i64 (spRes sh items o).code, .bool (spRes sh items o).ok, .int .i64 (spRes sh items o).val], .int .i64 (spErr sh o)]) ∧ SAt w' Z b sh (spStep sh items o) ∧ Kz Z w w' := by
  cases hm : may sh o with
  | true =>
    refine (spec_Do_yes o.kind o.key h hl hrs hm).mono fun e w' ⟨he, hs, hk⟩ => ?_
    simp only [spRes, spErr, spStep, hm, if_true]
    exact ⟨he, hs, hk⟩
  | false =>
    refine (spec_Do_no o.kind o.key h hm).mono fun e w' ⟨he, hs, hk⟩ => ?_
    simp only [spRes, spErr, spStep, hm, Bool.false_eq_true, if_false]
    exact ⟨he, hs, hk⟩

set_option maxRecDepth 100000 in
set_option maxHeartbeats 1600000 in
theorem spec_Copy (h : SAt w Z b sh items) (hl : items.length ≤ 1000) : Calls Tryd.prog 47 #[.pointer (some ⟨b, 0, none⟩)] w fun e w' =>
    ∃ g, e = .returned (.pointer (some ⟨g, 0, none⟩)) ∧ SAt w' (· < w.heap.size) g sh items ∧ Below w.heap.size w w' := by
  have h0 := h
  obtain ⟨v, h1, h2, -, -⟩ := h0.at_
  clear h0
  have qb := Later.cells h1 h1.lt
  go_enter Tryd.func47, Tryd.ntmps47
  go_wp2_with fail
  refine wp_region_ph (fun w' => ∃ q : Later w.heap.size w, w' = q.val) 10 [([0, 1, 2, 5, 6, 7, 8], 3)] [4, 9] [10, 11] (by kernel_rfl) (by kernel_rfl) (Later.mk_ (Below.refl _ _).drew) ?_
  refine wpPh_cons ?_
  simp only [opsAt, List.map_cons, List.map_nil, List.getD_cons_zero, List.getD_cons_succ]
  repeat (go_big_quiet_step (fail))
  refine wpQuiet_nil ?_
  refine wpPh_op rfl (fun K hK => ?_)
  go_simp
  refine (bag_Items (h.step' (Below.refl _ _).drew) hl).mono ?_
  rintro e w1 ⟨v1, rfl, ho, hb⟩
  have hb1 : Below w.heap.size w w1 := (Below.refl _ _).drew.trans hb
  obtain ⟨A1, c1, rfl, -, -, -⟩ := own_form ho
  refine hK _ _ (Later.mk_ hb1) ?_
  clear hK K hb
  refine wpPh_nil ?_
  repeat (go_big_quiet_step (fail))
  refine wpQuiet_nil ?_
  refine wpTail_late _ _ _ (by kernel_rfl) ?_
  clear qb h1 h2 h
  go_wp2_with fail
  refine NoPanic.normal ?_
  go_wp2_with fail
  go_ret
  have hs1 := hb1.size
  refine ⟨_, rfl, ⟨fun k hk => by simp; omega, _, Blk.new _ _ _, ?_, by omega, fun g hg => ?_⟩, hb1.alloc (by omega) _⟩
  · exact own_step (own_mono ho (Nat.zero_le _)) ((Below.refl _ _).alloc (Nat.le_refl _) _)
  · have : w.heap.size ≤ g := (own_at ho g hg).1; omega

end
/-- what is told, one by one -/
def playG (sh : Int) (l : List Opn) : List Int × List Rsl := l.foldl (fun p o => (spDo sh p.1 o, p.2 ++ [spTell p.1 o])) ([], [])
def tellsOf (sh : Int) (l : List Opn) : List Rsl := (playG sh l).2
theorem playG_snoc (sh : Int) (l : List Opn) (o : Opn) : playG sh (l ++ [o]) = (spDo sh (playG sh l).1 o, (playG sh l).2 ++ [spTell (playG sh l).1 o]) := by simp [playG, List.foldl_append]
theorem playG_fst (sh : Int) (l : List Opn) : (playG sh l).1 = itemsOf sh l := by
  induction l using snocRec with
  | nil => rfl
  | snoc l o ih => rw [playG_snoc, itemsOf_snoc, ih]
theorem tells_snoc (sh : Int) (l : List Opn) (o : Opn) : tellsOf sh (l ++ [o]) = tellsOf sh l ++ [spTell (itemsOf sh l) o] := by
  unfold tellsOf; rw [playG_snoc, playG_fst]
theorem tells_len (sh : Int) (l : List Opn) : (tellsOf sh l).length = l.length := by
  induction l using snocRec with
  | nil => rfl
  | snoc l o ih => rw [tells_snoc]; simp [ih]
theorem tells_at (sh : Int) (l : List Opn) (i : Nat) (o : Opn) (h : l[i]? = some o) : (tellsOf sh l)[i]? = some (spTell (itemsOf sh (l.take i)) o) := by
  induction l using snocRec with
  | nil => simp at h
  | snoc l x ih =>
    rw [tells_snoc]
    by_cases hi : i < l.length
    · rw [List.getElem?_append_left hi] at h
      rw [List.getElem?_append_left (by rw [tells_len]; exact hi), List.take_append_of_le_length (by omega)]
      exact ih h
    · rw [List.getElem?_append_right (by omega)] at h
      have : i = l.length := by
        have := (List.getElem?_eq_some_iff.1 h).1
        simp at this; omega
      subst this
      simp at h
      subst h
      rw [List.getElem?_append_right (by rw [tells_len]; exact Nat.le_refl _), tells_len]
      simp
theorem items_rise (sh : Int) (did : List Opn) (h : allMay sh did) : sh = 1 ∨ sh = 2 → rises (itemsOf sh did) := fun hs => by
  rw [items_set sh hs did h]; exact set_rises did

theorem SAt.rowGrown {w w' : World} {b N : Nat} {sh : Int} {items : List Int} {v v' : Value} {e : TypeId} {size n : Nat} {xs : List Value} (h : SAt w (fun k => k < N ∨ v.ownBlock = some k) b sh items) (hN : N ≤ w.heap.size) (hg : w.grownBy w' v.ownBlock)
    (hv : v.ownBlock = v'.ownBlock ∨ v'.ownBlock = some w.heap.size) (ho : w'.ownsRow N e size v' n xs) : SAt w' (fun k => k < N ∨ v'.ownBlock = some k) b sh items := by
  obtain ⟨u, h1, h2, h3, h4⟩ := h.at_
  have hk : Kz (fun k => v.ownBlock ≠ some k) w w' := ⟨hg.os, hg.tape, hg.output, hg.size, fun k hk hl => hg.block k hl (fun e => hk e.symm)⟩
  refine ⟨fun k hk => ?_, u, h1.kz hk (fun e => h3 (.inr e)), own_kz h2 hk (fun g hg' e => h4 g hg' (.inr e)), fun hh => ?_, fun g hg' hh => ?_⟩
  · rcases hk with hk | hk
    · have := hg.size; omega
    · obtain ⟨_, cs, h'⟩ := own_at ho k hk; exact h'.lt
  · rcases hh with hh | hh
    · exact h3 (.inl hh)
    · rcases hv with hv | hv
      · exact h3 (.inr (by rw [hv]; exact hh))
      · rw [hv] at hh; injection hh with hh; have := h1.lt; omega
  · rcases hh with hh | hh
    · exact h4 g hg' (.inl hh)
    · rcases hv with hv | hv
      · exact h4 g hg' (.inr (by rw [hv]; exact hh))
      · rw [hv] at hh; injection hh with hh
        obtain ⟨_, cs, h'⟩ := own_at h2 g hg'
        have := h'.lt; omega

end Go.Proofs.YtboommppikfgnaaDoor
