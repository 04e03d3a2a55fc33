/- Contract of the laws' width.
   Conditions: the number is at least 0 and at most 99999. -/
import Derived.Test.YtiihhpmgfmiacaaDoorSchWords
namespace Go.Proofs.YtiihhpmgfmiacaaDoor
open Go Go.RowKit

set_option maxRecDepth 100000 in
set_option maxHeartbeats 1600000 in
theorem law_width (n : Int) (w : World) (h0 : 0 ≤ n) (h1 : n ≤ 99999) :
    Calls Tryd.prog 16 #[.int .i64 n] w fun e w' => e = .returned (.int .i64 (widL n)) ∧ w = w' := by
  obtain ⟨N, hN⟩ : ∃ N : Nat, n = N := ⟨n.toNat, by omega⟩
  subst hN
  have hw : widL (N : Int) = Lib.nDigits N := by unfold widL; rw [Int.toNat_natCast]
  have h5 := nDigits_le 4 N (by simp; omega)
  rw [hw]
  clear hw
  go_enter Tryd.func16, Tryd.ntmps16
  go_wp2_with fail
  go_loopw [0, 3] (fun v k wr => ∃ u j : Nat, u ≤ 99999 ∧ v = .int .i64 u ∧ k = .int .i64 j ∧ j + Lib.nDigits u = Lib.nDigits N + 1 ∧ w = wr) (fun v _ _ => (intOf v).toNat)
  case atStart => exact ⟨N, 1, by omega, rfl, rfl, by omega, rfl⟩
  case round =>
    obtain ⟨u, j, hu, rfl, rfl, hj, rfl⟩ := hrel
    have hp := Lib.nDigits_pos u
    by_cases h9 : u < 10
    · have hs := Lib.nDigits_small h9
      have hj' : Lib.nDigits N = j := by omega
      have d : ¬ (9 : Int) < (u : Int) := by omega
      have HJ := Lib.hid hj'
      clear hj hj' h5 hs hp
      go_wp2_with fail
      go_ret
      exact ⟨by rw [HJ.out]; rfl, rfl⟩
    · have hb := Lib.nDigits_big h9
      have d : (9 : Int) < (u : Int) := by omega
      have hj5 : j ≤ 5 := by omega
      have hdiv : Int.tdiv (u : Int) 10 = ((u / 10 : Nat) : Int) := rfl
      have hj' : j + 1 + Lib.nDigits (u / 10) = Lib.nDigits N + 1 := by omega
      have HJ := Lib.hid hj'
      clear hj hj' h5 hb hp
      go_wp2_with fail
      go_roundw
      case rel => exact ⟨u / 10, j + 1, by omega, by go_num, by go_num, HJ.out, trivial⟩
      case measure => simp [intOf]; omega
end Go.Proofs.YtiihhpmgfmiacaaDoor
