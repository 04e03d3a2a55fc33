/- The law SchedParses, walked.
   Conditions: the cell of internal/bytealg.MaxLen holds an int; the table of powers of ten lies as laid. -/
import Derived.Test.YtiihhpmgfmiacaaDoorSchAwake
namespace Go.Proofs.YtiihhpmgfmiacaaDoor
open Go Go.RowKit

set_option maxRecDepth 100000 in
set_option maxHeartbeats 1600000 in
theorem law_SchedParses (s : ByteArray) (m : Int) (w : World) (hm : w.cell? ⟨0, 0, none⟩ = some (.int .i64 m)) (htab : ∀ w', Below w.heap.size w w' → Lib.TabIs Tryd.prog w' "internal/strconv.uint64pow10" .u64 Lib.pow10Tab) :
    Calls Tryd.prog 3 #[.string s] w fun e w' => e = .returned (.bool true) ∧ Below w.heap.size w w' := by
  have hsz : Hid (s.size = s.size) := rfl
  by_cases hbig : 500 < s.size
  · have d : decide (500 < (s.size : Int)) = true := by simp; omega
    go_enter Tryd.func3, Tryd.ntmps3
    go_wp2_with fail
    refine (law_awake m w hm htab).mono ?_
    rintro e w1 ⟨rfl, hb1⟩
    go_wp2_with fail
    go_ret
    exact ⟨rfl, hb1⟩
  · have d : decide (500 < (s.size : Int)) = false := by simp; omega
    go_enter Tryd.func3, Tryd.ntmps3
    go_wp2_with fail
    refine (law_awake m w hm htab).mono ?_
    rintro e w1 ⟨rfl, hb1⟩
    have hm1 := cell_keep hb1 hm
    go_wp2_with fail
    refine (sch_parse s m w1 (by omega) hm1).mono ?_
    rintro e w2 ⟨v, rfl, ho2, hb2⟩
    have hb02 := hb1.trans (hb2.mono hb1.size)
    go_wp2_with fail
    refine (ref_parse s w2 (by omega)).mono ?_
    rintro e w3 ⟨v3, rfl, ho3, hb3⟩
    have ho2' := own_step ho2 hb3
    have hb03 := hb02.trans (hb3.mono hb02.size)
    have hwm := words_many s.data.toList
    rw [← Lib.size_eq] at hwm
    have hpl := picksL_le (words s.data.toList)
    have hbl := badL_le (words s.data.toList)
    generalize picksL (words s.data.toList) = ps at *
    generalize badL (words s.data.toList) = nb at *
    obtain ⟨A, c, rfl, -, -, -⟩ := own_form ho2'
    obtain ⟨A3, c3, rfl, -, -, -⟩ := own_form ho3
    have hs2 := Sl.of_own ho2'
    have hs3 := Sl.of_own ho3
    go_wp2_with fail
    refine (law_plain A ps.length c w3.heap.size ps w3 hs2 (Nat.le_refl _) rfl (by omega)).mono ?_
    rintro e w4 ⟨v4, rfl, ho4, hb4⟩
    have hb04 := hb03.trans (hb4.mono hb03.size)
    obtain ⟨A4, c4, rfl, -, -, -⟩ := own_form ho4
    have hs4 := Sl.of_own ho4
    have hs34 := (hs3.step (Nat.le_refl _) hb4).more hb4.size
    go_wp2_with fail
    refine (law_same A4 A3 ps.length c4 c3 w4.heap.size ps w4 hs4 hs34 (Nat.le_refl _) rfl (by omega)).mono ?_
    rintro e w5 ⟨rfl, hb5⟩
    go_wp2_with fail
    go_ret
    exact ⟨rfl, hb04.trans (hb5.mono hb04.size)⟩
end Go.Proofs.YtiihhpmgfmiacaaDoor
