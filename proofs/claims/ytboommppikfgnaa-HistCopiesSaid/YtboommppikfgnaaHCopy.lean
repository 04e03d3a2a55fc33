/- Contract of the history's Copy.
   Conditions: at most 1000 events. -/
import Derived.Test.YtboommppikfgnaaHSame
import Derived.Test.YtboommppikfgnaaLead
namespace Go.Proofs.Ytboommppikfgnaa
open Go Go.RowKit

set_option maxRecDepth 100000 in
set_option maxHeartbeats 1600000 in
theorem hist_copy (b : Nat) (s : HS) (BH : Nat) (w : World) (h : HAt w BH b s) (hn : s.evs.length ≤ 1000) :
    Calls Try.prog 27 #[.pointer (some ⟨b, 0, none⟩)] w fun r w' => ∃ b', r = .returned (.pointer (some ⟨b', 0, none⟩)) ∧ HAt w' w.heap.size b' s ∧ Below w.heap.size w w' := by
  have hwf := h.wf
  obtain ⟨v1, v2, cs, hr⟩ := h.at_
  have hbl := hr.lt
  have q0 := Later.cell (B := w.heap.size) (w := w) (hr.fn (t := 0) (by omega)) hbl
  have q1 := Later.cell (B := w.heap.size) (w := w) (hr.fn (t := 1) (by omega)) hbl
  have q2 := Later.cell (B := w.heap.size) (w := w) (hr.fn (t := 2) (by omega)) hbl
  have q3 := Later.cell (B := w.heap.size) (w := w) (hr.fn (t := 3) (by omega)) hbl
  have q4 := Later.cell (B := w.heap.size) (w := w) (hr.fn (t := 4) (by omega)) hbl
  have q5 := Later.cell (B := w.heap.size) (w := w) (hr.fn (t := 5) (by omega)) hbl
  have q6 := Later.cell (B := w.heap.size) (w := w) (hr.fn (t := 6) (by omega)) hbl
  have q7 := Later.cell (B := w.heap.size) (w := w) (hr.fn (t := 7) (by omega)) hbl
  clear hr
  go_enter Try.func27, Try.ntmps27
  go_upto_region 1 with (fail)
  refine wp_region_lead (fun w' => ∃ q : Later w.heap.size w, w' = q.val) 8 [0, 2, 4, 5, 6, 7] [1, 3, 8, 9, 10] (by kernel_rfl) (by kernel_rfl) (Later.mk_ (Below.refl _ _).drew) ?_
  simp only [opsAt, List.map_cons, List.map_nil, List.toList_toArray, List.getD_cons_zero, List.getD_cons_succ]
  repeat (go_big_quiet_step (fail))
  refine wpQuiet_nil ?_
  clear q0 q1 q2 q3 q4 q5 q6 q7
  refine wpTail_early rfl (fun K hK => ?_)
  go_simp
  have h0 : HAt w.drew BH b s := h.drew
  have hb0 : Below w.heap.size w w.drew := (Below.refl _ _).drew
  have hs0 : w.drew.heap.size = w.heap.size := rfl
  generalize w.drew = W0 at *
  refine (hist_events b s BH W0 h0 hn).mono ?_
  rintro e w1 ⟨u1, rfl, ho1, hb1⟩
  rw [hs0] at ho1 hb1
  obtain ⟨X1, m1, rfl, -, -, -⟩ := own_form ho1
  refine hK _ _ (Later.mk_ (hb0.trans hb1)) ?_
  clear hK K
  refine wpTail_early rfl (fun K hK => ?_)
  go_simp
  have h1 := h0.step (hs0 ▸ hb1)
  have hs1 := (hb0.trans hb1).size
  refine (hist_calls b s BH w1 h1 hn).mono ?_
  rintro e w2 ⟨u2, rfl, ho2, hb2⟩
  obtain ⟨X2, m2, rfl, -, -, -⟩ := own_form ho2
  refine hK _ _ (Later.mk_ ((hb0.trans hb1).trans (hb2.mono hs1))) ?_
  clear hK K
  have hs2 := hb2.size
  have ho12 := own_step ho1 hb2
  refine wpTail_late _ _ _ (by kernel_rfl) ?_
  simp only [opsAt, List.map_cons, List.map_nil, List.toList_toArray, List.getD_cons_zero, List.getD_cons_succ]
  go_wp2_with fail
  refine NoPanic.normal ?_
  go_wp2_with fail
  go_ret
  have hB := (hb0.trans hb1).trans (hb2.mono hs1)
  refine ⟨w2.heap.size, rfl, ⟨hwf, by omega, _, _, _, Blk.new _ _ _, rfl, rfl, rfl, ?_, ho12.alloc _, (own_mono ho2 hs1).alloc _⟩, hB.alloc (by omega) _⟩
  intro t ht
  match t, ht with
  | 0, _ => rfl
  | 1, _ => rfl
  | 2, _ => rfl
  | 3, _ => rfl
  | 4, _ => rfl
  | 5, _ => rfl
  | 6, _ => rfl
  | 7, _ => rfl

end Go.Proofs.Ytboommppikfgnaa
