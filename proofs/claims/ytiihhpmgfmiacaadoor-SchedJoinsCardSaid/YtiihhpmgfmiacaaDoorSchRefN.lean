/- Contract of the document's Number (layer 20).
   Conditions: none. -/
import Derived.Test.YtiihhpmgfmiacaaDoorSchNum
namespace Go.Proofs.YtiihhpmgfmiacaaDoor
open Go Go.RowKit

theorem ret_i {a b : Int} (h : a = b) : Ending.returned (.int .i64 a) = .returned (.int .i64 b) := by rw [h]
def numI (l : List UInt8) : Int := match numL l with
  | some n => n
  | none => -1

set_option maxRecDepth 100000 in
set_option maxHeartbeats 1600000 in
theorem ref_number (s : ByteArray) (w : World) : Calls Tryd.prog 34 #[.string s] w fun e w' => e = .returned (.int .i64 (numI s.data.toList)) ∧ Below w.heap.size w w' := by
  have hs : s.size = s.data.toList.length := Lib.size_eq s
  by_cases h0 : s.size = 0
  · have hn : numL s.data.toList = none := by unfold numL; rw [if_pos]; omega
    have d0 : decide ((s.size : Int) < 1) = true := by simp; omega
    have HN : Hid (numI s.data.toList = -1) := by show numI _ = _; unfold numI; rw [hn]
    clear hn hs
    go_enter Tryd.func34, Tryd.ntmps34
    go_wp2
    go_ret
    exact ⟨ret_i HN.out.symm, Below.refl _ _⟩
  by_cases h5 : 5 < s.size
  · have hn : numL s.data.toList = none := by unfold numL; rw [if_pos]; omega
    have d0 : decide ((s.size : Int) < 1) = false := by simp; omega
    have HN : Hid (numI s.data.toList = -1) := by show numI _ = _; unfold numI; rw [hn]
    clear hn hs
    go_enter Tryd.func34, Tryd.ntmps34
    go_wp2
    go_ret
    exact ⟨ret_i HN.out.symm, Below.refl _ _⟩
  have hn : numL s.data.toList = if s.data.toList.all isDig then some (valOf s.data.toList) else none := by unfold numL; rw [if_neg]; omega
  have HN1 : Hid (s.data.toList.all isDig = true → numI s.data.toList = valOf s.data.toList) := fun h => by unfold numI; rw [hn, if_pos h]
  have HN0 : Hid (s.data.toList.all isDig = false → numI s.data.toList = -1) := fun h => by unfold numI; rw [hn, if_neg (by rw [h]; simp)]
  have HL : Hid (s.size = s.data.toList.length) := hs
  have d0 : decide ((s.size : Int) < 1) = false := by simp; omega
  have d5 : decide (5 < (s.size : Int)) = false := by simp; omega
  clear hn hs
  go_enter Tryd.func34, Tryd.ntmps34
  go_wp2
  go_loop [3, 4] (fun v i => ∃ k : Nat, k ≤ s.size ∧ i = .int .i64 k ∧ v = .int .i64 (valOf (s.data.toList.take k) : Nat) ∧ (s.data.toList.take k).all isDig = true) (fun _ i => s.size - (intOf i).toNat)
  case atStart => exact ⟨0, Nat.zero_le _, rfl, rfl, rfl⟩
  case round =>
    obtain ⟨k, hk, rfl, rfl, ha⟩ := hrel
    by_cases h : k < s.size
    · have hc : s.data.toList[k]? = some s[k] := by
        have hlt : k < s.data.size := h
        rw [Array.getElem?_toList, Array.getElem?_eq_getElem hlt]
        rfl
      have hv := valOf_small s.data.toList k (by have := HL.out; omega) ha
      have HV := Lib.hid (val_take_snoc s.data.toList k _ hc)
      have HA := Lib.hid (all_take_snoc s.data.toList k _ hc)
      have HNo := Lib.hid (fun hd => not_all s.data.toList k _ hc hd)
      have hA' := Lib.hid ha
      have hc255 : (s[k].toNat : Int) < 256 := by have := s[k].toNat_lt; omega
      have HD : Hid (isDig s[k] = (decide (48 ≤ s[k].toNat) && decide (s[k].toNat ≤ 57))) := rfl
      clear hc ha
      generalize valOf (s.data.toList.take k) = v at *
      by_cases h48 : s[k].toNat < 48
      · have d48 : decide ((s[k].toNat : Int) < 48) = true := by simp; omega
        have hd : isDig s[k] = false := by rw [HD.out]; simp; omega
        have HH := Lib.hid (HN0.out (HNo.out hd))
        clear hd h48
        go_wp2
        go_ret
        exact ⟨ret_i HH.out.symm, Below.refl _ _⟩
      have d48 : decide ((s[k].toNat : Int) < 48) = false := by simp; omega
      by_cases h57 : 57 < s[k].toNat
      · have d57 : decide (57 < (s[k].toNat : Int)) = true := by simp; omega
        have hd : isDig s[k] = false := by rw [HD.out]; simp; omega
        have HH := Lib.hid (HN0.out (HNo.out hd))
        clear hd h48 h57
        go_wp2
        go_ret
        exact ⟨ret_i HH.out.symm, Below.refl _ _⟩
      have d57 : decide (57 < (s[k].toNat : Int)) = false := by simp; omega
      go_wp2
      refine ⟨⟨k + 1, h, by simp, ?_, ?_⟩, ?_⟩
      · rw [HV.out]; simp; omega
      · rw [HA.out, hA'.out, HD.out]; simp; omega
      · simp [intOf] <;> omega
    · go_wp2
      go_ret
      have hl : s.data.toList.take k = s.data.toList := List.take_of_length_le (by have := HL.out; omega)
      rw [hl] at ha
      exact ⟨by rw [hl]; exact ret_i (HN1.out ha).symm, Below.refl _ _⟩
end Go.Proofs.YtiihhpmgfmiacaaDoor
