/- Contract of sched's number.
   Conditions: none. -/
import Derived.Test.YtiihhpmgfmiacaaDoorSchPlain
import Derived.Test.YtiihhpmgfmiacaaDoorSShelf
import Derived.Laws.IdiomStrings
namespace Go.Proofs.YtiihhpmgfmiacaaDoor
open Go Go.RowKit

theorem all_take_snoc (l : List UInt8) (k : Nat) (c : UInt8) (h : l[k]? = some c) : (l.take (k + 1)).all isDig = ((l.take k).all isDig && isDig c) := by
  rw [List.take_add_one, h]
  simp
theorem val_take_snoc (l : List UInt8) (k : Nat) (c : UInt8) (h : l[k]? = some c) : valOf (l.take (k + 1)) = 10 * valOf (l.take k) + (c.toNat - 48) := by
  rw [List.take_add_one, h]
  exact valOf_snoc _ _
theorem not_all (l : List UInt8) (k : Nat) (c : UInt8) (h : l[k]? = some c) (hc : isDig c = false) : l.all isDig = false := by
  rw [List.all_eq_false]
  exact ⟨c, List.mem_of_getElem? h, by rw [hc]; simp⟩
theorem valOf_small (l : List UInt8) (k : Nat) (hl : l.length ≤ 5) (h : (l.take k).all isDig = true) : valOf (l.take k) ≤ 99999 := by
  have h1 := valOf_lt _ h
  have h2 : 10 ^ (l.take k).length ≤ 10 ^ 5 := Nat.pow_le_pow_right (by omega) (by rw [List.length_take]; omega)
  omega

set_option maxHeartbeats 1600000 in
theorem sch_number (s : ByteArray) (w : World) : Calls Tryd.prog 33 #[.string s] w fun e w' => e = .returned (.tuple #[.int .i64 ((numL s.data.toList).getD 0 : Nat), .bool (numL s.data.toList).isSome]) ∧ Below w.heap.size w w' := by
  have hs : s.size = s.data.toList.length := Lib.size_eq s
  by_cases h0 : s.size = 0
  · have hn : numL s.data.toList = none := by unfold numL; rw [if_pos]; omega
    have d0 : ((s.size : Int) == 0) = true := by simp [h0]
    have HN := Lib.hid hn
    clear hn hs
    go_enter Tryd.func33, Tryd.ntmps33
    go_wp2
    go_ret2
    exact ⟨by rw [HN.out]; rfl, (Below.refl _ _)⟩
  by_cases h5 : 5 < s.size
  · have hn : numL s.data.toList = none := by unfold numL; rw [if_pos]; omega
    have HN := Lib.hid hn
    clear hn hs
    go_enter Tryd.func33, Tryd.ntmps33
    go_wp2
    go_ret2
    exact ⟨by rw [HN.out]; rfl, (Below.refl _ _)⟩
  have hn : numL s.data.toList = if s.data.toList.all isDig then some (valOf s.data.toList) else none := by unfold numL; rw [if_neg]; omega
  have HN := Lib.hid hn
  have HS := Lib.hid hs
  clear hn hs
  have d0 : ((s.size : Int) == 0) = false := beq_eq_false_iff_ne.2 (by omega)
  have d5 : decide (5 < (s.size : Int)) = false := by simp; omega
  have conv := fun W => run_bytes_of_string (P := Tryd.prog) W 9 68 5 s Tryd.underlying9 Tryd.underlying68 Tryd.underlying5
  go_enter Tryd.func33, Tryd.ntmps33
  go_wp2
  have hb : Below w.heap.size w (w.alloc (Obj.cells (bytesRow s (grownCap w s.size 0 5)) 5 ((bytesRow s (grownCap w s.size 0 5)).size, (bytesRow s (grownCap w s.size 0 5)).size + 1))).drew := ((Below.refl _ _).alloc (Nat.le_refl _) _).drew
  have hC : ∀ j, (hj : j < s.data.size) → (w.alloc (Obj.cells (bytesRow s (grownCap w s.size 0 5)) 5 ((bytesRow s (grownCap w s.size 0 5)).size, (bytesRow s (grownCap w s.size 0 5)).size + 1))).drew.cell? ⟨w.heap.size, j, none⟩ = some (.int .u8 (s.data[j].toNat : Int)) := fun j hj => by
    have := World.cell?_alloc_mark w (bytesRow s (grownCap w s.size 0 5)) 5 ((bytesRow s (grownCap w s.size 0 5)).size, (bytesRow s (grownCap w s.size 0 5)).size + 1) j
    rw [bytesRow_at s _ j hj] at this
    exact this
  generalize (w.alloc (Obj.cells (bytesRow s (grownCap w s.size 0 5)) 5 ((bytesRow s (grownCap w s.size 0 5)).size, (bytesRow s (grownCap w s.size 0 5)).size + 1))).drew = W1 at *
  generalize grownCap w s.size 0 5 = cap at *
  clear conv
  generalize hn' : s.size = n at *
  have HL : Hid (n = s.data.toList.length) := HS
  have HB := Lib.hid hb
  have HCC := Lib.hid hC
  clear HS hb hC
  go_loop [4, 18] (fun v i => ∃ k : Nat, k ≤ n ∧ i = .int .i64 k ∧ v = .int .i64 (valOf (s.data.toList.take k) : Nat) ∧ (s.data.toList.take k).all isDig = true) (fun _ i => n - (intOf i).toNat)
  case atStart => exact ⟨0, Nat.zero_le _, rfl, rfl, rfl⟩
  case round =>
    obtain ⟨k, hk, rfl, rfl, ha⟩ := hrel
    by_cases h : k < n
    · obtain ⟨c, hc⟩ : ∃ c, s.data.toList[k]? = some c := ⟨_, List.getElem?_eq_getElem (by have := HL.out; omega)⟩
      have hcell : W1.cell? ⟨w.heap.size, k, none⟩ = some (.int .u8 (c.toNat : Int)) := by
        have hlt : k < s.data.size := by have := HL.out; rw [Array.length_toList] at this; omega
        rw [HCC.out k hlt]
        have : s.data[k] = c := by
          have h1 := hc
          rw [Array.getElem?_toList, Array.getElem?_eq_getElem hlt] at h1
          exact Option.some.inj h1
        rw [this]
      have hv := valOf_small s.data.toList k (by have := HL.out; omega) ha
      have HV := Lib.hid (val_take_snoc s.data.toList k c hc)
      have HA := Lib.hid (all_take_snoc s.data.toList k c hc)
      have HNo := Lib.hid (fun hd => not_all s.data.toList k c hc hd)
      have hA' := Lib.hid ha
      have hc255 : c.toNat < 256 := c.toNat_lt
      have HD : Hid (isDig c = (decide (48 ≤ c.toNat) && decide (c.toNat ≤ 57))) := rfl
      clear hc ha HCC
      generalize valOf (s.data.toList.take k) = v at *
      generalize c.toNat = cv at *
      by_cases h48 : cv < 48
      · have hd : isDig c = false := by rw [HD.out]; simp; omega
        have HH := Lib.hid (HNo.out hd)
        clear hd
        go_wp2
        go_ret2
        exact ⟨by rw [HN.out, HH.out]; rfl, HB.out⟩
      by_cases h57 : 57 < cv
      · have hd : isDig c = false := by rw [HD.out]; simp; omega
        have HH := Lib.hid (HNo.out hd)
        clear hd
        go_wp2
        go_ret2
        exact ⟨by rw [HN.out, HH.out]; rfl, HB.out⟩
      go_wp2
      go_round
      case rel =>
        refine ⟨k + 1, h, by simp, ?_, ?_⟩
        · rw [HV.out]; simp; omega
        · rw [HA.out, hA'.out, HD.out]; simp; omega
      case measure => simp [intOf] <;> omega
    · go_wp2
      go_ret2
      have hl : s.data.toList.take k = s.data.toList := List.take_of_length_le (by have := HL.out; omega)
      rw [hl] at ha
      exact ⟨by rw [HN.out, ha, hl]; rfl, HB.out⟩
end Go.Proofs.YtiihhpmgfmiacaaDoor
