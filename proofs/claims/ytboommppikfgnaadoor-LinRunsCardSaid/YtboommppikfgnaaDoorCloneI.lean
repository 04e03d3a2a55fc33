/- slices.Clone at ints.
   Conditions: at most 100000 elements. -/
import Derived.Test.YtboommppikfgnaaDoorRows
import Derived.Test.YtboommppikfgnaaDoorApp
import Derived.WalkKit
import Derived.WalkSpells
import Derived.WalkLawsBesides
import Derived.Lib.Hide
namespace Go.Proofs.YtboommppikfgnaaDoor
open Go Go.RowKit

theorem info_int : (Tryd.prog.info? 3).map (fun i => (i.zero, i.size, i.bytes)) = some (some (.int .i64 0), 1, 8) := by kernel_rfl

set_option maxHeartbeats 400000 in
theorem clone_int (A : Option Addr) (n c B : Nat) (xs : List Value) (w : World) (hr : Sl w B 1 A n xs) (hB : B ≤ w.heap.size) (h1 : ∀ u ∈ xs, u.oneCell' = true) (hn : n ≤ 100000) (hnil : A = none → n = 0 ∧ c = 0) :
    Calls Tryd.prog 54 #[.slice A n c] w fun e w' => ∃ v, e = .returned v ∧ w'.ownsRow w.heap.size 3 1 v n xs ∧ Below w.heap.size w w' := by
  obtain ⟨i0, hi, hz0, hz1, hz2⟩ := info_parts info_int
  cases A with
  | none =>
    obtain ⟨rfl, rfl⟩ := hnil rfl
    have hx : xs = [] := List.eq_nil_of_length_eq_zero (by simpa using hr.len)
    subst hx
    have hq := fun w : World => Lib.run_eql_slice_nil (P := Tryd.prog) w 29 3 none 0 0 0 0 Tryd.underlying29
    go_enter Tryd.func54, Tryd.ntmps54
    go_wp2
    go_ret
    exact ⟨_, rfl, World.ownsRow_nil _ _ _ _, Below.refl _ _⟩
  | some a =>
    have hq := fun w : World => Lib.run_eql_slice_nil (P := Tryd.prog) w 29 3 (some a) n c 0 0 Tryd.underlying29
    have ho := own_zero w 3 1 (Nat.le_refl _) rfl
    have hs : Sl (w.alloc (.cells #[] 3)) B 1 (some a) n xs := hr.step hB ((Below.refl _ _).alloc (Nat.le_refl _) _)
    go_enter Tryd.func54, Tryd.ntmps54
    go_wp2_with (at_builtin; refine wpList_append_sl _ rfl _ _ _ rfl w.heap.size 3 i0 _ 1 8 Tryd.underlying29 hi hz0 hz1 hz2 rfl (by omega) (.slice (some ⟨w.heap.size, 0, none⟩) 0 0) 0 [] rfl ho B (some a) n c xs rfl hs h1 (by unfold maxLen; omega) (by omega) (by simp) ?_; intro v1 w1 hown1 hg1 hat1)
    go_ret
    exact ⟨_, rfl, by simpa using hown1, ((Below.refl _ _).alloc (Nat.le_refl _) _).grown hg1 (by simp) (by simp [Value.ownBlock])⟩

end Go.Proofs.YtboommppikfgnaaDoor
