/- Contract of the laws' example (layer 20).
   Conditions: the cell of internal/bytealg.MaxLen holds an int; the table of powers of ten lies as laid. -/
import Derived.Test.YtiihhpmgfmiacaaDoorSchLen
namespace Go.Proofs.YtiihhpmgfmiacaaDoor
open Go Go.RowKit

theorem ex_bytes : picksL (words (⟨#[48, 42, 51, 32, 120, 32, 49, 50]⟩ : ByteArray).data.toList) = [⟨0, 3⟩, ⟨12, 1⟩] := by kernel_rfl
theorem ex_bad : badL (words (⟨#[48, 42, 51, 32, 120, 32, 49, 50]⟩ : ByteArray).data.toList) = 1 := by kernel_rfl
theorem ex_text : textL [⟨0, 3⟩, ⟨12, 1⟩] = [48, 42, 51, 32, 49, 50] := by kernel_rfl
theorem ex_all : (allL [⟨0, 3⟩, ⟨12, 1⟩]).length = 4 := by kernel_rfl

set_option maxRecDepth 100000 in
set_option maxHeartbeats 1600000 in
theorem law_awake (m : Int) (w : World) (hm : w.cell? ⟨0, 0, none⟩ = some (.int .i64 m)) (htab : ∀ w', Below w.heap.size w w' → Lib.TabIs Tryd.prog w' "internal/strconv.uint64pow10" .u64 Lib.pow10Tab) :
    Calls Tryd.prog 10 #[] w fun e w' => e = .returned (.bool true) ∧ Below w.heap.size w w' := by
  go_enter Tryd.func10, Tryd.ntmps10
  go_wp2_with fail
  refine (sch_parse ⟨#[48, 42, 51, 32, 120, 32, 49, 50]⟩ m w (by decide) hm).mono ?_
  rintro e w1 ⟨v, rfl, hown, hb1⟩
  rw [ex_bytes] at hown
  rw [ex_bad]
  obtain ⟨A, c, rfl, -, -, -⟩ := own_form hown
  have hs := Sl.of_own hown
  have hst := (sch_text A 2 c w1.heap.size [⟨0, 3⟩, ⟨12, 1⟩] w1 hs (Nat.le_refl _) rfl (by omega) (fun w' hb => htab w' (hb1.trans (hb.mono hb1.size))))
  rw [ex_text] at hst
  have HST := Lib.hid hst
  have i0 := hs.idx (P := Tryd.prog) (c := c) Tryd.underlying23 pkSz (k := 0) (by simp)
  have i1 := hs.idx (P := Tryd.prog) (c := c) Tryd.underlying23 pkSz (k := 1) (by simp)
  obtain ⟨f0, f1⟩ := pk_cells hs (k := 0) (p := ⟨0, 3⟩) (by simp) rfl
  obtain ⟨g0, g1⟩ := pk_cells hs (k := 1) (p := ⟨12, 1⟩) (by simp) rfl
  have HS := Lib.hid hs
  clear hst htab hown hs
  simp at i0 i1 f0 f1 g0 g1
  go_wp2_with fail
  refine HST.out.mono ?_
  rintro e w2 ⟨rfl, hb2⟩
  have hb02 := hb1.trans (hb2.mono hb1.size)
  have hs2 := (HS.out.step (Nat.le_refl _) hb2).more hb2.size
  have hsl := sch_len A 2 c [⟨0, 3⟩, ⟨12, 1⟩] w2 hs2 rfl (by omega)
  rw [ex_all] at hsl
  have HSL := Lib.hid hsl
  clear hsl hs2
  go_wp2_with fail
  refine HSL.out.mono ?_
  rintro e w3 ⟨rfl, hb3⟩
  go_wp2_with fail
  go_ret
  exact ⟨rfl, hb02.trans (hb3.mono hb02.size)⟩
end Go.Proofs.YtiihhpmgfmiacaaDoor
