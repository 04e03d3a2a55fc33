/- Contracts of lin's must, may, step.
   Conditions: none. -/
import Derived.Test.YtboommppikfgnaaDoorLinPlain
import Derived.Test.YtboommppikfgnaaDoorHc
import Derived.Test.YtboommppikfgnaaDoorSPlay
namespace Go.Proofs.YtboommppikfgnaaDoor
open Go Go.RowKit

set_option maxHeartbeats 800000 in
theorem lin_must (c : HC) (w : World) : Calls Tryd.prog 36 #[.agg #[.int .i64 c.began, .int .i64 c.ended, .int .i64 c.id, .int .i64 c.th, .int .i64 c.kind, .int .i64 c.key, .int .i64 c.code, .bool c.ok, .int .i64 c.val]] w fun e w' => e = .returned (.bool c.must) ∧ Below w.heap.size w w' := by
  have hx := Blk.new w 88 #[.int .i64 c.began, .int .i64 c.ended, .int .i64 c.id, .int .i64 c.th, .int .i64 c.kind, .int .i64 c.key, .int .i64 c.code, .bool c.ok, .int .i64 c.val]
  have hb : Below w.heap.size w (w.alloc (.cells #[.int .i64 c.began, .int .i64 c.ended, .int .i64 c.id, .int .i64 c.th, .int .i64 c.kind, .int .i64 c.key, .int .i64 c.code, .bool c.ok, .int .i64 c.val] 88)) := (Below.refl _ _).alloc (Nat.le_refl _) _
  have hm : c.must = (!(decide (c.ended < 0)) && (c.code == 0)) := rfl
  have hp := fun W => span_pending c.began c.ended W
  cases hd : decide (c.ended < 0) with
  | true =>
    rw [hd] at hm hp
    have HM := Lib.hid hm
    have HP := Lib.hid hp
    clear hd hm hp
    go_enter Tryd.func36, Tryd.ntmps36
    go_upto_region 1 with (fail)
    generalize (w.alloc (.cells #[.int .i64 c.began, .int .i64 c.ended, .int .i64 c.id, .int .i64 c.th, .int .i64 c.kind, .int .i64 c.key, .int .i64 c.code, .bool c.ok, .int .i64 c.val] 88)) = W at *
    have cx := hx.cells
    go_wp2_with fail
    refine (HP.out W).mono ?_
    rintro e w1 ⟨rfl, hb1⟩
    go_wp2_with fail
    go_ret
    exact ⟨by rw [HM.out]; rfl, hb.trans (hb1.mono hb.size)⟩
  | false =>
    rw [hd] at hm hp
    have HM := Lib.hid hm
    have HP := Lib.hid hp
    clear hd hm hp
    go_enter Tryd.func36, Tryd.ntmps36
    go_upto_region 1 with (fail)
    generalize (w.alloc (.cells #[.int .i64 c.began, .int .i64 c.ended, .int .i64 c.id, .int .i64 c.th, .int .i64 c.kind, .int .i64 c.key, .int .i64 c.code, .bool c.ok, .int .i64 c.val] 88)) = W at *
    have cx := hx.cells
    go_wp2_with fail
    refine (HP.out W).mono ?_
    rintro e w1 ⟨rfl, hb1⟩
    have hx1 := hx.step hb1
    have cy := hx1.cells
    have hl := hx1.lt
    go_wp2_with fail
    go_ret
    exact ⟨by rw [HM.out]; rfl, hb.trans (hb1.mono hb.size)⟩
end Go.Proofs.YtboommppikfgnaaDoor
