/- Contract of sched's entry.
   Conditions: the cell of internal/bytealg.MaxLen holds an int; the text is shorter than 2^32 - 15 bytes. -/
import Derived.Test.YtiihhpmgfmiacaaDoorSchNum
namespace Go.Proofs.YtiihhpmgfmiacaaDoor
open Go Go.RowKit

theorem lt_of_cell {w : World} {g i : Nat} {v : Value} (h : w.cell? ⟨g, i, none⟩ = some v) : g < w.heap.size := by
  by_cases hg : g < w.heap.size
  · exact hg
  · have h0 : w.heap[g]? = none := Array.getElem?_eq_none (by omega)
    unfold World.cell? at h
    rw [h0] at h
    cases h
theorem cell_keep {w w' : World} {g i : Nat} {v : Value} (hb : Below w.heap.size w w') (h : w.cell? ⟨g, i, none⟩ = some v) : w'.cell? ⟨g, i, none⟩ = some v := by
  rw [hb.cell (lt_of_cell h)]; exact h

theorem sch_cut (s : ByteArray) (a b : List UInt8) (f : Bool) (m : Int) (w : World) (hc : Lib.cut s.data.toList [42] = (a, b, f)) (hs : s.size < 4294967281) (hm : w.cell? ⟨0, 0, none⟩ = some (.int .i64 m)) :
    Calls Tryd.prog 32 #[.string s, .string ⟨#[42]⟩] w fun e w' => e = .returned (.tuple #[.string ⟨a.toArray⟩, .string ⟨b.toArray⟩, .bool f]) ∧ Below w.heap.size w w' := by
  refine (Tryd.strings_Cut s ⟨#[42]⟩ m w hs hm).mono ?_
  rintro e w' ⟨he, n, rfl⟩
  refine ⟨?_, ⟨rfl, rfl, rfl, Nat.le_refl _, fun _ _ => rfl⟩⟩
  have h : Lib.cut s.data.toList (⟨#[42]⟩ : ByteArray).data.toList = (a, b, f) := hc
  rw [he, h]
theorem sch_number_is (l : List UInt8) (n : Nat) (ok : Bool) (h1 : (numL l).getD 0 = n) (h2 : (numL l).isSome = ok) (w : World) : Calls Tryd.prog 33 #[.string ⟨l.toArray⟩] w fun e w' => e = .returned (.tuple #[.int .i64 n, .bool ok]) ∧ Below w.heap.size w w' := by
  subst h1 h2
  exact sch_number ⟨l.toArray⟩ w
theorem pick_fin {w W : World} (hx : Blk W w.heap.size 33 #[.int .i64 0, .int .i64 0]) (hb : Below w.heap.size w W) (x y : Value) :
    Blk ((W.setCell ⟨w.heap.size, 0, none⟩ x).setCell ⟨w.heap.size, 1, none⟩ y) w.heap.size 33 #[x, y] ∧ Below w.heap.size w ((W.setCell ⟨w.heap.size, 0, none⟩ x).setCell ⟨w.heap.size, 1, none⟩ y) :=
  ⟨(hx.set_ 0 x).set_ 1 y, (hb.setCell (p := ⟨w.heap.size, 0, none⟩) (Nat.le_refl _) _).setCell (p := ⟨w.heap.size, 1, none⟩) (Nat.le_refl _) _⟩

set_option maxHeartbeats 1600000 in
theorem sch_entry (s : ByteArray) (m : Int) (w : World) (hs : s.size < 4294967281) (hm : w.cell? ⟨0, 0, none⟩ = some (.int .i64 m)) :
    Calls Tryd.prog 24 #[.string s] w fun e w' => e = .returned (.tuple #[.agg #[.int .i64 (entTh s.data.toList), .int .i64 (entTm s.data.toList)], .bool (entOk s.data.toList)]) ∧ Below w.heap.size w w' := by
  obtain ⟨a, b, f, hcut⟩ : ∃ a b f, Lib.cut s.data.toList [42] = (a, b, f) := ⟨_, _, _, rfl⟩
  obtain ⟨na, hna⟩ : ∃ r, (numL a).getD 0 = r := ⟨_, rfl⟩
  obtain ⟨ka, hka⟩ : ∃ r, (numL a).isSome = r := ⟨_, rfl⟩
  obtain ⟨nb, hnb⟩ : ∃ r, (numL b).getD 0 = r := ⟨_, rfl⟩
  obtain ⟨kb, hkb⟩ : ∃ r, (numL b).isSome = r := ⟨_, rfl⟩
  obtain ⟨T, hT⟩ : ∃ r, (if f then nb else 1) = r := ⟨_, rfl⟩
  obtain ⟨O, hO⟩ : ∃ r, (ka && (if f then kb else true)) = r := ⟨_, rfl⟩
  have h1 : Hid (entTh s.data.toList = na) := by show entTh _ = _; unfold entTh; rw [hcut, hna]
  have h2 : Hid (entTm s.data.toList = T) := by show entTm _ = _; unfold entTm; rw [hcut, hnb, ← hT]
  have h3 : Hid (entOk s.data.toList = O) := by show entOk _ = _; unfold entOk; rw [hcut, hka, hkb, ← hO]
  have hx := Blk.new w 33 #[.int .i64 0, .int .i64 0]
  have hb : Below w.heap.size w (w.alloc (.cells #[.int .i64 0, .int .i64 0] 33)) := (Below.refl _ _).alloc (Nat.le_refl _) _
  have hg : w.heap.size < (w.alloc (.cells #[.int .i64 0, .int .i64 0] 33)).heap.size := hx.lt
  have hm1 : (w.alloc (.cells #[.int .i64 0, .int .i64 0] 33)).cell? ⟨0, 0, none⟩ = some (.int .i64 m) := cell_keep hb hm
  have HC := Lib.hid hcut
  have HA := Lib.hid hna
  have HA' := Lib.hid hka
  have HBn := Lib.hid hnb
  have HBn' := Lib.hid hkb
  have HT := Lib.hid hT
  have HO := Lib.hid hO
  clear hcut hna hka hnb hkb hT hO
  go_enter Tryd.func24, Tryd.ntmps24
  go_upto_region 1 with (fail)
  generalize (w.alloc (.cells #[.int .i64 0, .int .i64 0] 33)) = W at *
  go_wp2_with fail
  refine (sch_cut s a b f m W HC.out hs hm1).mono ?_
  rintro e w1 ⟨rfl, hb1⟩
  have hx1 := hx.step hb1
  have hb01 := hb.trans (hb1.mono hb.size)
  clear hm1 hm hs hx hb
  cases f
  · go_wp2_with fail
    refine (sch_number_is a na ka HA.out HA'.out _).mono ?_
    rintro e w2 ⟨rfl, hb2⟩
    have hx2 := hx1.step hb2
    have hb02 := hb01.trans (hb2.mono hb01.size)
    clear hx1 hb01
    obtain ⟨f1, f2⟩ := pick_fin hx2 hb02 (.int .i64 na) (.int .i64 (1 : Int))
    have hy0 := hx2.frozen 0
    have hy1 := hx2.frozen 1
    have hc := hx2.cells
    have hc' := f1.cells
    clear f1 hx2 hb02
    obtain rfl : (1 : Nat) = T := HT.out
    cases ka
    · obtain rfl : false = O := HO.out
      go_wp2_with fail
      generalize ((w2.setCell ⟨w.heap.size, 0, none⟩ (.int .i64 na)).setCell ⟨w.heap.size, 1, none⟩ (.int .i64 1)) = W2 at *
      exact bodyPost_ret (v := .tuple #[.agg #[.int .i64 na, .int .i64 1], .bool false]) (by simp [results, Tryd.results24, go_sem, hc']) rfl ⟨by rw [h1.out, h2.out, h3.out]; rfl, f2⟩
    · obtain rfl : true = O := HO.out
      go_wp2_with fail
      generalize ((w2.setCell ⟨w.heap.size, 0, none⟩ (.int .i64 na)).setCell ⟨w.heap.size, 1, none⟩ (.int .i64 1)) = W2 at *
      exact bodyPost_ret (v := .tuple #[.agg #[.int .i64 na, .int .i64 1], .bool true]) (by simp [results, Tryd.results24, go_sem, hc']) rfl ⟨by rw [h1.out, h2.out, h3.out]; rfl, f2⟩
  · go_wp2_with fail
    refine (sch_number_is a na ka HA.out HA'.out _).mono ?_
    rintro e w2 ⟨rfl, hb2⟩
    have hx2 := hx1.step hb2
    have hb02 := hb01.trans (hb2.mono hb01.size)
    clear hx1 hb01
    go_wp2_with fail
    refine (sch_number_is b nb kb HBn.out HBn'.out _).mono ?_
    rintro e w3 ⟨rfl, hb3⟩
    have hx3 := hx2.step hb3
    have hb03 := hb02.trans (hb3.mono hb02.size)
    clear hx2 hb02
    obtain ⟨f1, f2⟩ := pick_fin hx3 hb03 (.int .i64 na) (.int .i64 nb)
    have hy0 := hx3.frozen 0
    have hy1 := hx3.frozen 1
    have hc := hx3.cells
    have hc' := f1.cells
    clear f1 hx3 hb03
    obtain rfl : nb = T := HT.out
    cases ka
    · obtain rfl : false = O := HO.out
      go_wp2_with fail
      generalize ((w3.setCell ⟨w.heap.size, 0, none⟩ (.int .i64 na)).setCell ⟨w.heap.size, 1, none⟩ (.int .i64 nb)) = W2 at *
      exact bodyPost_ret (v := .tuple #[.agg #[.int .i64 na, .int .i64 nb], .bool false]) (by simp [results, Tryd.results24, go_sem, hc']) rfl ⟨by rw [h1.out, h2.out, h3.out], f2⟩
    · obtain rfl : kb = O := HO.out
      go_wp2_with fail
      generalize ((w3.setCell ⟨w.heap.size, 0, none⟩ (.int .i64 na)).setCell ⟨w.heap.size, 1, none⟩ (.int .i64 nb)) = W2 at *
      exact bodyPost_ret (v := .tuple #[.agg #[.int .i64 na, .int .i64 nb], .bool kb]) (by simp [results, Tryd.results24, go_sem, hc']) rfl ⟨by rw [h1.out, h2.out, h3.out], f2⟩
end Go.Proofs.YtiihhpmgfmiacaaDoor
