/- Contracts of hist's small functions: New, known, Pending, Len, Span.Pending, Span.Before.
   Conditions: none. -/
import Derived.Test.YtboommppikfgnaaDoorRows
import Derived.Test.YtboommppikfgnaaDoorMem
import Derived.Test.YtboommppikfgnaaDoorHPlain
import Derived.WalkKit
import Derived.WalkSpells
import Derived.WalkLawsBesides
import Derived.Lib.Hide
import Derived.Deep.QuietTactic
import Derived.BigQuiet
import Derived.Deep.LoopGhost
namespace Go.Proofs.YtboommppikfgnaaDoor
open Go Go.RowKit

theorem ret_int {k : IntKind} {a b : Int} (h : a = b) : Ending.returned (.int k a) = .returned (.int k b) := by rw [h]
theorem ret_bool {a b : Bool} (h : a = b) : Ending.returned (.bool a) = .returned (.bool b) := by rw [h]

theorem span_pending (a b : Int) (w : World) :
    Calls Tryd.prog 51 #[.agg #[.int .i64 a, .int .i64 b]] w fun e w' => e = .returned (.bool (decide (b < 0))) ∧ Below w.heap.size w w' := by
  go_enter Tryd.func51, Tryd.ntmps51
  go_wp2
  go_ret
  exact ⟨rfl, (Below.refl _ _).alloc (Nat.le_refl _) _⟩

/-- one span is before another one -/
def spanB (b c : Int) : Bool := !(decide (b < 0)) && decide (b < c)

set_option maxHeartbeats 400000 in
theorem span_before (a b c d : Int) (w : World) :
    Calls Tryd.prog 37 #[.agg #[.int .i64 a, .int .i64 b], .agg #[.int .i64 c, .int .i64 d]] w fun e w' => e = .returned (.bool (spanB b c)) ∧ Below w.heap.size w w' := by
  by_cases hb : b < 0
  · have h1 : decide (b < 0) = true := by simpa using hb
    go_enter Tryd.func37, Tryd.ntmps37
    go_wp2_with (go_at_call 51; refine (span_pending _ _ _).mono ?_; rintro e w1 ⟨rfl, hb1⟩)
    go_ret
    refine ⟨ret_bool (by simp [spanB, h1]), ?_⟩
    exact (((Below.refl _ _).alloc (Nat.le_refl _) _).alloc (by simp) _).trans (hb1.mono (by simp; omega))
  · have h1 : decide (b < 0) = false := by simpa using hb
    go_enter Tryd.func37, Tryd.ntmps37
    go_wp2_with (go_at_call 51; refine (span_pending _ _ _).mono ?_; rintro e w1 ⟨rfl, hb1⟩; have hc1 := Blk.cells (Blk.below ((Blk.new w 86 #[.int .i64 a, .int .i64 b]).alloc (.cells #[.int .i64 c, .int .i64 d] 86)) hb1 (by simp; omega)); have hc2 := Blk.cells (Blk.below (Blk.newAt (w.alloc (.cells #[.int .i64 a, .int .i64 b] 86)) 86 #[.int .i64 c, .int .i64 d] (g := w.heap.size + 1) (by simp)) hb1 (by simp)))
    go_ret
    refine ⟨ret_bool (by simp [spanB, h1]), ?_⟩
    exact (((Below.refl _ _).alloc (Nat.le_refl _) _).alloc (by simp) _).trans (hb1.mono (by simp; omega))

theorem span_before_is (a b c d : Int) (w : World) (r : Bool) (h : spanB b c = r) :
    Calls Tryd.prog 37 #[.agg #[.int .i64 a, .int .i64 b], .agg #[.int .i64 c, .int .i64 d]] w fun e w' => e = .returned (.bool r) ∧ Below w.heap.size w w' := by
  subst h; exact span_before a b c d w
theorem span_pending_is (a b : Int) (w : World) (r : Bool) (h : decide (b < 0) = r) :
    Calls Tryd.prog 51 #[.agg #[.int .i64 a, .int .i64 b]] w fun e w' => e = .returned (.bool r) ∧ Below w.heap.size w w' := by
  subst h; exact span_pending a b w

abbrev HAt (w : World) (B b : Nat) (s : HS) : Prop := HistAt 83 64 88 w B b s

theorem hist_new (w : World) : Calls Tryd.prog 15 #[] w fun e w' => e = .returned (.pointer (some ⟨w.heap.size, 0, none⟩)) ∧ HAt w' w.heap.size w.heap.size HS.new ∧ Below w.heap.size w w' := by
  go_enter Tryd.func15, Tryd.ntmps15
  go_wp2
  go_ret
  refine ⟨rfl, ⟨HS.wf_new, Nat.le_refl _, _, _, _, Blk.new _ _ _, rfl, rfl, rfl, ?_, World.ownsRow_nil _ _ _ _, World.ownsRow_nil _ _ _ _⟩, (Below.refl _ _).alloc (Nat.le_refl _) _⟩
  intro t ht
  match t, ht with
  | 0, _ => rfl
  | 1, _ => rfl
  | 2, _ => rfl
  | 3, _ => rfl
  | 4, _ => rfl
  | 5, _ => rfl
  | 6, _ => rfl
  | 7, _ => rfl

theorem hist_known (t : Int) (w : World) : Calls Tryd.prog 31 #[.int .i64 t] w fun e w' => e = .returned (.bool (decide (0 ≤ t) && decide (t < 8))) ∧ w = w' := by
  by_cases h : 0 ≤ t
  · go_enter Tryd.func31, Tryd.ntmps31
    go_wp2
    go_ret
    exact ⟨ret_bool (by simp [h]), rfl⟩
  · go_enter Tryd.func31, Tryd.ntmps31
    go_wp2
    go_ret
    exact ⟨ret_bool (by simp; omega), rfl⟩

set_option maxHeartbeats 400000 in
theorem hist_pending (b : Nat) (s : HS) (B : Nat) (t : Int) (w : World) (h : HAt w B b s) :
    Calls Tryd.prog 32 #[.pointer (some ⟨b, 0, none⟩), .int .i64 t] w fun e w' => e = .returned (.bool (s.pend t)) ∧ w = w' := by
  obtain ⟨v1, v2, cs, hr⟩ := h.at_
  by_cases hk : 0 ≤ t ∧ t < 8
  · obtain ⟨t, rfl⟩ := Int.eq_ofNat_of_zero_le hk.1
    have ht : t < 8 := by omega
    have hcell := hr.fn ht
    have hkb : (decide (0 ≤ (t : Int)) && decide ((t : Int) < 8)) = true := by simp; omega
    clear hr h
    have HK := Lib.hid hkb
    clear hkb
    go_enter Tryd.func32, Tryd.ntmps32
    go_wp2_with (go_at_call 31; refine (hist_known _ _).mono ?_; rw [HK.out]; rintro e w1 ⟨rfl, rfl⟩)
    go_ret
    exact ⟨ret_bool (by simp [HS.pend]; omega), rfl⟩
  · have hkb : (decide (0 ≤ t) && decide (t < 8)) = false := by simp; omega
    have hp : s.pend t = false := by simp only [HS.pend, hkb]; rfl
    have HK := Lib.hid hkb
    have HP := Lib.hid hp
    clear hkb hp hr h
    go_enter Tryd.func32, Tryd.ntmps32
    go_wp2_with (go_at_call 31; refine (hist_known _ _).mono ?_; rw [HK.out]; rintro e w1 ⟨rfl, rfl⟩)
    go_ret
    exact ⟨ret_bool (HP.out.symm), rfl⟩

end Go.Proofs.YtboommppikfgnaaDoor
