/- Contract of the law's same and of the history's add.
   Conditions: at most 1000 events. -/
import Derived.Test.YtboommppikfgnaaDoorHRefW
import Derived.Test.YtboommppikfgnaaDoorCloneH
import Derived.Test.YtboommppikfgnaaDoorHc
import Derived.Test.YtboommppikfgnaaDoorHInv
import Derived.Deep.DeepCutAuto
namespace Go.Proofs.YtboommppikfgnaaDoor
open Go Go.RowKit

theorem hevSz : (Tryd.prog.info? 64).map (·.size) = some 7 := by kernel_rfl

set_option maxHeartbeats 400000 in
theorem hist_add (b : Nat) (s : HS) (B : Nat) (e : Ev) (w : World) (h : HAt w B b s) (hB : B ≤ w.heap.size) (hn : s.evs.length ≤ 1000) :
    Calls Tryd.prog 41 #[.pointer (some ⟨b, 0, none⟩), .agg #[.int .i64 e.th, .bool e.ends, .int .i64 e.kind, .int .i64 e.key, .int .i64 e.code, .bool e.ok, .int .i64 e.val]] w fun r w' =>
      r = .returned (.int .i64 (if e.ends then s.errE e.th else s.errB e.th)) ∧ HAt w' B b (s.step e) ∧ Kp B [83, 64, 88] w w' := by
  cases hen : e.ends with
  | true =>
    have hst : s.step e = s.end_ e.th e.code e.ok e.val := by simp [HS.step, hen]
    rw [hst]
    clear hst hen
    go_enter Tryd.func41, Tryd.ntmps41
    go_wp2_with fail
    refine (hist_end b s B e.th e.code e.ok e.val _ (h.alloc _) (by simp; omega) hn).mono ?_
    rintro r w' ⟨rfl, h', k'⟩
    go_wp2_with fail
    go_ret
    exact ⟨rfl, h', (((Kp.of_below (Below.refl _ _) _).mono hB (fun _ h => h)).alloc hB _).trans k'⟩
  | false =>
    have hst : s.step e = s.begin_ e.th e.kind e.key := by simp [HS.step, hen]
    rw [hst]
    clear hst hen
    go_enter Tryd.func41, Tryd.ntmps41
    go_wp2_with fail
    refine (hist_begin b s B e.th e.kind e.key _ (h.alloc _) (by simp; omega) hn).mono ?_
    rintro r w' ⟨rfl, h', k'⟩
    go_wp2_with fail
    go_ret
    exact ⟨rfl, h', (((Kp.of_below (Below.refl _ _) _).mono hB (fun _ h => h)).alloc hB _).trans k'⟩

end Go.Proofs.YtboommppikfgnaaDoor
