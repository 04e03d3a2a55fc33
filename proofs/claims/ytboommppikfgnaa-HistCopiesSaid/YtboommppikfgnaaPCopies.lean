/- Whatever events and later events: HistCopies returns true, and its arguments read as they did.
   Conditions: none. -/
import Derived.Test.YtboommppikfgnaaLCopies
import Derived.Test.YtboommppikfgnaaEvRows
import Derived.Test.YtboommppikfgnaaOpen
import Derived.WalkKit
import Derived.ProofKit
import Derived.OpenShut
import Derived.ShutString
import Derived.ChangeOld
import Derived.Below
namespace Go.Proofs.Ytboommppikfgnaa.pHistCopies
open Go Go.Proofs.Ytboommppikfgnaa
open Go.ChangeShapes Go.WideShapes Go.ChangeAt Go.RowKit
open Go.ChangeMaps (open_string shut_string)


theorem own : ownKnob Try.prog.godebug = none := by kernel_rfl
theorem laidOut : laidOutB Try.prog = true := by kernel_rfl

set_option maxRecDepth 100000 in
theorem lifted (os : Os) (started : os.Started) (H : Type) (enc : TypeId × Value → H) :
    ReturnsInHanded {} Try.checked os 6 .any (Rows.histCopiesSpec.pre6 enc Try.prog Try.f6 Rows.histCopiesRow.domain false) (Rows.histCopiesSpec.post enc Try.prog Try.f6 false true false false) := by
  refine returnsInHanded_of_change (C := Try.checked) own started (by kernel_rfl) Try.func6
    (ChangeSpec.witness6 (enc := enc) (C := Try.checked) false ⟨#[], #[.slice none 0 0, .slice none 0 0], []⟩ 8 (by kernel_rfl) (by kernel_rfl) (by kernel_rfl) (by kernel_rfl)) ?_
  intro W base args ds gs before hval0 hW hcnd _
  have hval : ∀ (j : Nat) t v, Try.f6.params[j]? = some t → args[j]? = some v → Value.okWide Try.prog W .any base t v := hval0
  have hW' := hW
  obtain ⟨p, q, hA0, hV, rfl, hfz, hnd⟩ := hW
  have hA : DataW.TrodAll enc Try.prog W 0 (fun _ => true) true Try.f6.params.toList args.toList ds p := hA0
  rw [Try.params6] at hA hval
  obtain ⟨v0, vs0, d0, ds0, p0, q0, hargs, rfl, rfl, h0, r0⟩ := trodAll_cons hA
  obtain ⟨v1, vs1, d1, ds1, p1, q1, rfl, rfl, rfl, h1, r1⟩ := trodAll_cons r0
  obtain ⟨rfl, rfl, rfl⟩ := trodAll_nil r1
  obtain rfl : args = #[v0, v1] := by cases args; simp_all
  obtain ⟨rfl, rfl⟩ := trodVars_none hV
  have k0 := h0
  have lt0 : ∀ x ∈ p0, x.block < W.heap.size := by obtain ⟨m, hm⟩ := k0; exact DataW.trod_lt m _ _ _ hm
  obtain ⟨A0, len0, cap0, rfl⟩ := okWide_slice Try.underlying29 (hval 0 29 v0 rfl rfl)
  obtain ⟨rows0, rl0, rk0, sl0, lc0, nil0⟩ := open_rows (f := 6) (sz := 7) (ks := [some .i64, none, some .i64, some .i64, some .i64, none, some .i64]) Try.underlying29 (by kernel_rfl) (by kernel_rfl) (by omega) h0 lt0
  obtain ⟨evs0, hev0⟩ := rows_evs rows0 rk0
  have es0 : Sl W W.heap.size 7 A0 len0 (evs0.flatMap Ev.cells) := by rw [← hev0.2]; exact sl0
  have el0 : evs0.length = len0 := hev0.1.trans rl0
  have k1 := h1
  have lt1 : ∀ x ∈ p1, x.block < W.heap.size := by obtain ⟨m, hm⟩ := k1; exact DataW.trod_lt m _ _ _ hm
  obtain ⟨A1, len1, cap1, rfl⟩ := okWide_slice Try.underlying29 (hval 1 29 v1 rfl rfl)
  obtain ⟨rows1, rl1, rk1, sl1, lc1, nil1⟩ := open_rows (f := 6) (sz := 7) (ks := [some .i64, none, some .i64, some .i64, some .i64, none, some .i64]) Try.underlying29 (by kernel_rfl) (by kernel_rfl) (by omega) h1 lt1
  obtain ⟨evs1, hev1⟩ := rows_evs rows1 rk1
  have es1 : Sl W W.heap.size 7 A1 len1 (evs1.flatMap Ev.cells) := by rw [← hev1.2]; exact sl1
  have el1 : evs1.length = len1 := hev1.1.trans rl1
  clear hA0 hval0
  refine (law_copies A0 len0 cap0 A1 len1 cap1 W.heap.size evs0 evs1 W es0 es1 el0 el1 (Nat.le_refl _)).mono fun e W' ⟨he, bel⟩ => ?_
  subst he
  exact ⟨_, rfl, _, _, _, [], _, [], hW', trodAll_mk1 (shut_bool Try.underlying4 _), (trodAll_cons_mk (Below.trod laidOut (by kernel_rfl) (of_decide_eq_true (by kernel_rfl)) k0 bel lt0) (trodAll_cons_mk (Below.trod laidOut (by kernel_rfl) (of_decide_eq_true (by kernel_rfl)) k1 bel lt1) trodAll_mk0)), rfl, bel.frame _, fun h => by cases h⟩

theorem over : Rows.histCopiesRow.holds Try.pinned (OpenSpec.ofChange Rows.histCopiesSpec) :=
  OpenClaim.holds_of_wide 6 Try.f6 rfl rfl rfl rfl rfl rfl rfl ⟨rfl, rfl, rfl, rfl, rfl⟩ rfl rfl rfl rfl rfl (by kernel_rfl) Try.func6 (by kernel_rfl)
    (of_decide_eq_true (by kernel_rfl)) (by unfold Func.isWrapper; first | (rw [if_pos (by decide +kernel)]; kernel_rfl) | (rw [if_neg (by decide +kernel)]; exact ⟨rfl, rfl⟩))
    (fun os started H enc _ => lifted os started H enc)

theorem proved : Rows.HistCopiesSaid := over
end Go.Proofs.Ytboommppikfgnaa.pHistCopies
