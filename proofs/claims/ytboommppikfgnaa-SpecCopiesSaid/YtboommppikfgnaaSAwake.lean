/- The example of layer 7's statements is as it is told.
   Conditions: none. -/
import Derived.Test.YtboommppikfgnaaSPlay
namespace Go.Proofs.Ytboommppikfgnaa
open Go Go.RowKit

def awOps : List Opn := [⟨4, 4⟩, ⟨4, 9⟩, ⟨5, 0⟩]
theorem awMay : allMay 3 awOps := by
  intro o ho
  simp only [awOps, List.mem_cons, List.not_mem_nil, or_false] at ho
  rcases ho with rfl | rfl | rfl <;> (unfold mayP; simp)

set_option maxRecDepth 100000 in
set_option maxHeartbeats 1600000 in
theorem sawake (w : World) : Calls Try.prog 30 #[] w fun e w' => e = .returned (.bool true) ∧ Below w.heap.size w w' := by
  go_enter Try.func30, Try.ntmps30
  go_wp2_with fail
  have hx := Blk.new w 33 #[.int .i64 4, .int .i64 4, .int .i64 4, .int .i64 9, .int .i64 5, .int .i64 0]
  have hb0 : Below w.heap.size w (w.alloc (.cells #[.int .i64 4, .int .i64 4, .int .i64 4, .int .i64 9, .int .i64 5, .int .i64 0] 33)) := (Below.refl _ _).alloc (Nat.le_refl _) _
  have hsl : Sl (w.alloc (.cells #[.int .i64 4, .int .i64 4, .int .i64 4, .int .i64 9, .int .i64 5, .int .i64 0] 33)) (w.heap.size + 1) 2 (some ⟨w.heap.size, 0, none⟩) 3 (awOps.flatMap Opn.cells) := by
    refine ⟨rfl, fun _ => rfl, fun _ => by simp [ablk], fun j hj => ?_⟩
    simp only [ablk, aoff, Option.map_some, Option.getD_some, Nat.zero_add]
    rw [hx.cell, ← Array.getElem?_toList]; rfl
  refine (spec_Play 3 (by omega) (some ⟨w.heap.size, 0, none⟩) 3 3 _ awOps _ hsl (by simp) rfl (by omega)).mono ?_
  rintro e w1 (⟨-, v, g, rfl, s1, ho, hb1⟩ | ⟨hno, -⟩)
  · have hit : itemsOf 3 awOps = [9] := by decide
    have htl : (tellsOf 3 awOps).flatMap Rsl.cells = [.int .i64 0, .bool true, .int .i64 0, .int .i64 0, .bool true, .int .i64 0, .int .i64 0, .bool true, .int .i64 4] := by rfl
    rw [hit] at s1
    rw [htl] at ho
    have hl := bag_Len s1
    simp only [List.length_cons, List.length_nil] at hl
    rcases ho.2 with ⟨rfl, hn⟩ | ⟨g2, cap, cur, rfl, hbg, hg, hnc, hcm, hcs, htake⟩
    · omega
    · have hc6 := ho.cellAt 6 (by omega)
      have hc7 := ho.cellAt 7 (by omega)
      have hc8 := ho.cellAt 8 (by omega)
      simp only [List.getElem?_cons_succ, List.getElem?_cons_zero] at hc6 hc7 hc8
      have hb := hb0.trans (hb1.mono (by simp))
      clear ho hg hcs htake hsl hx hb0 hb1 hit htl s1 hnc hcm hbg
      go_wp2_with fail
      refine hl.mono ?_
      rintro e w2 ⟨rfl, rfl⟩
      go_wp2_with fail
      go_ret
      exact ⟨rfl, hb⟩
  · exact absurd awMay hno

end Go.Proofs.Ytboommppikfgnaa
