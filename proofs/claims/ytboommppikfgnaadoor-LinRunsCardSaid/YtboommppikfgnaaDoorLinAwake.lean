/- Contract of the laws' example (layer 9).
   Conditions: the table of powers of ten lies as laid. -/
import Derived.Test.YtboommppikfgnaaDoorLinOrder
namespace Go.Proofs.YtboommppikfgnaaDoor
open Go Go.RowKit

theorem branch_len (sh : Int) (cs : List HC) : Branch sh cs cs.length := fun _ => List.length_filter_le _ _
def ex1 : List Ev := [⟨0, false, 4, 1, 0, false, 0⟩, ⟨1, false, 5, 0, 0, false, 0⟩, ⟨1, true, 0, 0, 0, true, 1⟩]
def ex2 : List Ev := [⟨0, false, 4, 1, 0, false, 0⟩, ⟨1, false, 5, 0, 0, false, 0⟩, ⟨1, true, 0, 0, 0, true, 2⟩]
theorem ex1_calls : (HS.run ex1).calls = [⟨0, -1, 0, 0, 4, 1, 0, false, 0⟩, ⟨1, 2, 1, 1, 5, 0, 0, true, 1⟩] := rfl
theorem ex2_calls : (HS.run ex2).calls = [⟨0, -1, 0, 0, 4, 1, 0, false, 0⟩, ⟨1, 2, 1, 1, 5, 0, 0, true, 2⟩] := rfl
theorem ex1_evs : (HS.run ex1).evs.length = 3 := rfl
theorem ex2_evs : (HS.run ex2).evs.length = 3 := rfl
theorem ex1_of : ofTo ex1 3 = 0 := by kernel_rfl
theorem ex2_of : ofTo ex2 3 = 0 := by kernel_rfl
theorem ex1_find : findL 3 (HS.run ex1).calls 0 [] = some [0, 1] := by kernel_rfl
theorem ex2_find : findL 3 (HS.run ex2).calls 0 [] = none := by kernel_rfl
theorem ex1_cost : cost (HS.run ex1).calls.length (HS.run ex1).calls.length ≤ maxLen := by decide
theorem ex2_cost : cost (HS.run ex2).calls.length (HS.run ex2).calls.length ≤ maxLen := by decide

theorem sl_blk {w : World} {g sz n : Nat} {t : TypeId} {cs : Array Value} {xs : List Value} (h : Blk w g t cs) (hx : cs.toList = xs) (hn : xs.length = n * sz) : Sl w w.heap.size sz (some ⟨g, 0, none⟩) n xs := by
  refine ⟨hn, fun _ => rfl, fun _ => h.lt, fun j hj => ?_⟩
  have := h.cell j
  rw [← hx]
  simpa [ablk, aoff] using this
theorem branch1 : Branch 3 (HS.run ex1).calls (HS.run ex1).calls.length := branch_len _ _
theorem branch2 : Branch 3 (HS.run ex2).calls (HS.run ex2).calls.length := branch_len _ _

set_option maxRecDepth 100000 in
set_option maxHeartbeats 1600000 in
theorem lin_awake (w : World) (htab : ∀ w', Below w.heap.size w w' → Lib.TabIs Tryd.prog w' "internal/strconv.uint64pow10" .u64 Lib.pow10Tab) :
    Calls Tryd.prog 8 #[] w fun e w' => e = .returned (.bool true) ∧ Below w.heap.size w w' := by
  have HT := Lib.hid htab
  clear htab
  go_enter Tryd.func8, Tryd.ntmps8
  go_wp2_with fail
  have hA := Blk.new w 64 #[.int .i64 0, .bool false, .int .i64 4, .int .i64 1, .int .i64 0, .bool false, .int .i64 0, .int .i64 1, .bool false, .int .i64 5, .int .i64 0, .int .i64 0, .bool false, .int .i64 0, .int .i64 1, .bool true, .int .i64 0, .int .i64 0, .int .i64 0, .bool true, .int .i64 1]
  have hbA : Below w.heap.size w (w.alloc (.cells #[.int .i64 0, .bool false, .int .i64 4, .int .i64 1, .int .i64 0, .bool false, .int .i64 0, .int .i64 1, .bool false, .int .i64 5, .int .i64 0, .int .i64 0, .bool false, .int .i64 0, .int .i64 1, .bool true, .int .i64 0, .int .i64 0, .int .i64 0, .bool true, .int .i64 1] 64)) := (Below.refl _ _).alloc (Nat.le_refl _) _
  generalize (w.alloc (.cells #[.int .i64 0, .bool false, .int .i64 4, .int .i64 1, .int .i64 0, .bool false, .int .i64 0, .int .i64 1, .bool false, .int .i64 5, .int .i64 0, .int .i64 0, .bool false, .int .i64 0, .int .i64 1, .bool true, .int .i64 0, .int .i64 0, .int .i64 0, .bool true, .int .i64 1] 64)) = wA at *
  refine (hist_of (some ⟨w.heap.size, 0, none⟩) 3 3 wA.heap.size ex1 wA (sl_blk hA rfl rfl) rfl (Nat.le_refl _) (by omega)).mono ?_
  rintro e w1 ⟨h1, hb1⟩
  rcases h1 with ⟨h0, -⟩ | ⟨-, rfl, h1⟩
  · exact absurd ex1_of h0
  have hb01 := hbA.trans (hb1.mono hbA.size)
  have hor := lin_order 3 (by omega) wA.heap.size (HS.run ex1) wA.heap.size _ w1 h1 (HS.good_run ex1) (by rw [ex1_evs]; omega) (by rw [ex1_calls]; decide) branch1 ex1_cost (fun w' hb' => HT.out w' (hb01.trans (hb'.mono hb01.size)))
  rw [ex1_find] at hor
  obtain ⟨b1, hb1e⟩ : ∃ b1, wA.heap.size = b1 := ⟨_, rfl⟩
  rw [hb1e] at h1 hor ⊢
  have HB1 := Lib.hid hb1e
  clear hb1e hA
  go_wp2_with fail
  refine hor.mono ?_
  rintro e w2 ⟨⟨Ar, cr, rfl, hsr⟩, hb2⟩
  have hb02 := hb01.trans (hb2.mono hb01.size)
  have h12 := h1.step hb2
  clear hor h1
  go_wp2_with fail
  have hC := Blk.new w2 64 #[.int .i64 0, .bool false, .int .i64 4, .int .i64 1, .int .i64 0, .bool false, .int .i64 0, .int .i64 1, .bool false, .int .i64 5, .int .i64 0, .int .i64 0, .bool false, .int .i64 0, .int .i64 1, .bool true, .int .i64 0, .int .i64 0, .int .i64 0, .bool true, .int .i64 2]
  have hbC : Below w2.heap.size w2 (w2.alloc (.cells #[.int .i64 0, .bool false, .int .i64 4, .int .i64 1, .int .i64 0, .bool false, .int .i64 0, .int .i64 1, .bool false, .int .i64 5, .int .i64 0, .int .i64 0, .bool false, .int .i64 0, .int .i64 1, .bool true, .int .i64 0, .int .i64 0, .int .i64 0, .bool true, .int .i64 2] 64)) := (Below.refl _ _).alloc (Nat.le_refl _) _
  generalize (w2.alloc (.cells #[.int .i64 0, .bool false, .int .i64 4, .int .i64 1, .int .i64 0, .bool false, .int .i64 0, .int .i64 1, .bool false, .int .i64 5, .int .i64 0, .int .i64 0, .bool false, .int .i64 0, .int .i64 1, .bool true, .int .i64 0, .int .i64 0, .int .i64 0, .bool true, .int .i64 2] 64)) = wC at *
  have h1C := h12.step hbC
  have hsC := (hsr.step (Nat.le_refl _) hbC).more hbC.size
  refine (hist_of (some ⟨w2.heap.size, 0, none⟩) 3 3 wC.heap.size ex2 wC (sl_blk hC rfl rfl) rfl (Nat.le_refl _) (by omega)).mono ?_
  rintro e w3 ⟨h3, hb3⟩
  rcases h3 with ⟨h0, -⟩ | ⟨-, rfl, h3⟩
  · exact absurd ex2_of h0
  have hb0C := hb02.trans (hbC.mono hb02.size)
  have hb03 := hb0C.trans (hb3.mono hb0C.size)
  have h13 := h1C.step hb3
  have hs3 := (hsC.step (Nat.le_refl _) hb3).more hb3.size
  obtain ⟨b2, hb2e⟩ : ∃ b2, wC.heap.size = b2 := ⟨_, rfl⟩
  rw [hb2e] at h3 ⊢
  have HB2 := Lib.hid hb2e
  clear hb2e hC
  go_wp2_with fail
  have hD := Blk.new w3 3 #[.int .i64 0, .int .i64 1]
  have hbD : Below w3.heap.size w3 (w3.alloc (.cells #[.int .i64 0, .int .i64 1] 3)) := (Below.refl _ _).alloc (Nat.le_refl _) _
  generalize (w3.alloc (.cells #[.int .i64 0, .int .i64 1] 3)) = wD at *
  have hs3' : Sl w3 w3.heap.size 1 Ar 2 (ints [0, 1]) := hs3
  have hsD := (hs3'.step (Nat.le_refl _) hbD).more hbD.size
  have hnew : Sl wD wD.heap.size 1 (some ⟨w3.heap.size, 0, none⟩) 2 (ints [0, 1]) := sl_blk hD rfl rfl
  have h1D := h13.step hbD
  have h3D := h3.step hbD
  have hb0D := hb03.trans (hbD.mono hb03.size)
  clear h13 h3 hs3 hs3' hD hsC hsr
  refine (ref_Ints [0, 1] [0, 1] Ar (some ⟨w3.heap.size, 0, none⟩) 2 2 cr 2 hsD hnew (Nat.le_refl _) (by omega) (by omega)).mono ?_
  rintro e w4 ⟨rfl, hb4⟩
  have h14 := h1D.step hb4
  have h34 := h3D.step hb4
  have hb04 := hb0D.trans (hb4.mono hb0D.size)
  have hl2 := lin_linear 3 (by omega) b2 (HS.run ex2) b2 _ w4 h34 (HS.good_run ex2) (by rw [ex2_evs]; omega) (by rw [ex2_calls]; decide) branch2 ex2_cost (fun w' hb' => HT.out w' (hb04.trans (hb'.mono hb04.size))) false (by rw [ex2_find]; rfl)
  have hbeq : (([0, 1] : List Int) == [0, 1]) = true := rfl
  rw [hbeq]
  clear hbeq
  go_wp2_with fail
  refine hl2.mono ?_
  rintro e w5 ⟨rfl, hb5⟩
  have h15 := h14.step hb5
  have hb05 := hb04.trans (hb5.mono hb04.size)
  clear hl2
  have hl1 := lin_linear 3 (by omega) b1 (HS.run ex1) b1 _ w5 h15 (HS.good_run ex1) (by rw [ex1_evs]; omega) (by rw [ex1_calls]; decide) branch1 ex1_cost (fun w' hb' => HT.out w' (hb05.trans (hb'.mono hb05.size))) true (by rw [ex1_find]; rfl)
  go_wp2_with fail
  refine hl1.mono ?_
  rintro e w6 ⟨rfl, hb6⟩
  go_wp2_with fail
  go_ret
  exact ⟨rfl, hb05.trans (hb6.mono hb05.size)⟩
end Go.Proofs.YtboommppikfgnaaDoor
