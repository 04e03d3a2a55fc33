/- The law LinOrders, walked.
   Conditions: the table of powers of ten lies as laid. -/
import Derived.Test.YtboommppikfgnaaDoorLinAwake
import Derived.Test.YtboommppikfgnaaDoorLinMake
import Derived.Test.YtboommppikfgnaaDoorLinLess
import Derived.Test.YtboommppikfgnaaDoorHCallsW
namespace Go.Proofs.YtboommppikfgnaaDoor
open Go Go.RowKit

theorem cost_six : ∀ m : Nat, m ≤ 6 → cost m m ≤ maxLen := by
  intro m hm
  have : m = 0 ∨ m = 1 ∨ m = 2 ∨ m = 3 ∨ m = 4 ∨ m = 5 ∨ m = 6 := by omega
  rcases this with rfl | rfl | rfl | rfl | rfl | rfl | rfl <;> decide
theorem valid_nil (cs : List RC) : ValidR cs [] := fun _ h => by cases h

set_option maxRecDepth 100000 in
set_option maxHeartbeats 6400000 in
theorem law_LinOrders (sh : Int) (A : Option Addr) (n c : Nat) (evs : List Ev) (w : World) (hs : Sl w w.heap.size 7 A n (evs.flatMap Ev.cells)) (hn : evs.length = n) (htab : ∀ w', Below w.heap.size w w' → Lib.TabIs Tryd.prog w' "internal/strconv.uint64pow10" .u64 Lib.pow10Tab) :
    Calls Tryd.prog 3 #[.int .i64 sh, .slice A n c] w fun e w' => e = .returned (.bool true) ∧ Below w.heap.size w w' := by
  have HAW := Lib.hid (lin_awake w htab)
  have HT := Lib.hid htab
  have HN := Lib.hid hn
  clear htab hn
  by_cases hbig : 60 < n
  · go_enter Tryd.func3, Tryd.ntmps3
    go_wp2_with fail
    refine HAW.out.mono ?_
    rintro e w1 ⟨rfl, hb1⟩
    go_wp2_with fail
    go_ret
    exact ⟨rfl, hb1⟩
  have hn60 : n ≤ 60 := by omega
  have hgt : decide ((60 : Int) < (n : Int)) = false := by simp; omega
  clear hbig
  go_enter Tryd.func3, Tryd.ntmps3
  go_wp2_with fail
  refine HAW.out.mono ?_
  rintro e w1 ⟨rfl, hb1⟩
  have hs1 := (hs.below hb1).more hb1.size
  go_wp2_with fail
  refine (law_make A n c evs w1 hs1 HN.out hn60).mono ?_
  rintro e w2 ⟨b, s, took, v, rfl, hok, htl, hh2, hown2, hb2⟩
  obtain ⟨At, ct, rfl, -, -, -⟩ := own_form hown2
  have hb02 := hb1.trans (hb2.mono hb1.size)
  have hst := Sl.of_own hown2
  go_wp2_with fail
  refine (ref_calls At took.length ct w2.heap.size took w2 hst (Nat.le_refl _) rfl (by omega)).mono ?_
  rintro e w3 ⟨v3, rfl, hown3, hb3⟩
  rw [hok.rc, List.length_map] at hown3
  obtain ⟨Ac, cc, rfl, -, -, -⟩ := own_form hown3
  have hh3 := hh2.step hb3
  have hb03 := hb02.trans (hb3.mono hb02.size)
  have hsl : s.evs.length ≤ 1000 := by have := hok.len; omega
  obtain ⟨m, hm⟩ : ∃ m, s.calls.length = m := ⟨_, rfl⟩
  have HM := Lib.hid hm
  rw [hm] at hown3 ⊢
  clear hm hst hs1
  by_cases hb6 : 6 < m
  · go_wp2_with fail
    go_ret
    exact ⟨rfl, hb03⟩
  have hm6 : m ≤ 6 := by omega
  have hgt6 : decide ((6 : Int) < (m : Int)) = false := by simp; omega
  clear hb6
  by_cases hshape : sh < 1 ∨ 4 < sh
  · have hno := fun W => lin_order_no sh (some ⟨b, 0, none⟩) W (.inl hshape)
    have hno2 := fun W => lin_linear_no sh (some ⟨b, 0, none⟩) W (.inl hshape)
    have HNO := Lib.hid hno
    have HNO2 := Lib.hid hno2
    clear hno hno2
    rcases hshape with h1 | h1
    all_goals
      go_wp2_with fail
      refine (HNO.out w3).mono ?_
      rintro e w4 ⟨rfl, hb4⟩
      have hb04 := hb03.trans (hb4.mono hb03.size)
      go_wp2_with fail
      refine (HNO2.out w4).mono ?_
      rintro e w5 ⟨rfl, hb5⟩
      have hb05 := hb04.trans (hb5.mono hb04.size)
      go_wp2_with fail
      go_ret
      exact ⟨rfl, hb05⟩
  have hsh : 1 ≤ sh ∧ sh ≤ 4 := by omega
  have hn1 : ¬ sh < 1 := by omega
  have hn4 : ¬ 4 < sh := by omega
  have hd1 : decide (sh < 1) = false := decide_eq_false hn1
  have hd4 : decide ((4 : Int) < sh) = false := decide_eq_false hn4
  have htab3 : ∀ W, Below w3.heap.size w3 W → ∀ w', Below W.heap.size W w' → Lib.TabIs Tryd.prog w' "internal/strconv.uint64pow10" .u64 Lib.pow10Tab := fun W hW w' hw' => HT.out w' ((hb03.trans (hW.mono hb03.size)).trans (hw'.mono (Nat.le_trans hb03.size hW.size)))
  have hcost : cost s.calls.length s.calls.length ≤ maxLen := cost_six _ (by rw [HM.out]; exact hm6)
  have hbr := branch_len sh s.calls
  have hgood := hok.ref.good
  have hnum := numbered_good hgood
  have hplain := least_all hsh hnum (ref_self hok.ref)
  rw [HM.out] at hplain
  obtain ⟨F, hF⟩ : ∃ F, findL sh s.calls 0 [] = F := ⟨_, rfl⟩
  have HF := Lib.hid hF
  have hord := lin_order sh hsh b s b _ w3 hh3 hgood hsl (by rw [HM.out]; omega) hbr hcost (htab3 w3 (Below.refl _ _))
  have hlin := fun (W : World) (hW : Below w3.heap.size w3 W) => lin_linear sh hsh b s b _ W (hh3.step hW) hgood hsl (by rw [HM.out]; omega) hbr hcost (htab3 W hW) _ rfl
  have hsr : Sl w3 w3.heap.size 8 Ac m ((s.calls.map HC.rc).flatMap RC.cells) := Sl.of_own hown3
  have hl0 : left m 0 = m := by
    unfold left
    have : ((List.range m).filter fun i => !(0 : Nat).testBit i) = List.range m := List.filter_eq_self.2 (fun i _ => by simp)
    rw [this, List.length_range]
  have hleast := fun (W : World) (hW : Below w3.heap.size w3 W) => ref_least sh (s.calls.map HC.rc) Ac m cc (by rw [List.length_map, HM.out]) (by omega) m 0 0 0 W.heap.size [] none W ((hsr.below hW).more hW.size) (Sl.of_own (base := 0) (e := 3) (c := 0) (World.ownsRow_nil _ _ _ _)) (Nat.le_refl _) rfl (valid_nil _) (by omega) (.inl ⟨rfl, rfl, rfl⟩) (fun i _ => by simp) hl0
  rw [hF] at hord hlin hplain
  rw [hplain] at hleast
  have HORD := Lib.hid hord
  have HLIN := Lib.hid hlin
  have HLEAST := Lib.hid hleast
  clear hord hlin hleast hplain hF hcost hbr hgood hnum htab3 hl0 hsr hown3 hh3 hh2 hown2
  go_wp2_with fail
  refine HORD.out.mono ?_
  rintro e w4 ⟨htold, hb4⟩
  have hb04 := hb03.trans (hb4.mono hb03.size)
  cases F with
  | none =>
    obtain rfl := htold
    go_wp2_with fail
    refine (HLEAST.out w4 hb4).mono ?_
    rintro e w5 ⟨htold5, hb5⟩
    obtain rfl := htold5
    have hb05 := hb04.trans (hb5.mono hb04.size)
    have hb35 := hb4.trans (hb5.mono hb4.size)
    go_wp2_with fail
    refine (ints_same (w := w5) (B := w5.heap.size) true [] [] rfl none none 0 0 0 0 (Sl.of_own (base := 0) (e := 3) (c := 0) (World.ownsRow_nil _ _ _ _)) (Sl.of_own (base := 0) (e := 3) (c := 0) (World.ownsRow_nil _ _ _ _)) (Nat.le_refl _) (by omega) (by omega)).mono ?_
    rintro e w6 ⟨rfl, hb6⟩
    have hb06 := hb05.trans (hb6.mono hb05.size)
    have hb36 := hb35.trans (hb6.mono hb35.size)
    go_wp2_with fail
    refine (HLIN.out w6 hb36).mono ?_
    rintro e w7 ⟨rfl, hb7⟩
    have hb07 := hb06.trans (hb7.mono hb06.size)
    go_wp2_with fail
    go_ret
    exact ⟨rfl, hb07⟩
  | some r =>
    obtain ⟨A4, c4, rfl, hsl4⟩ := htold
    go_wp2_with fail
    refine (HLEAST.out w4 hb4).mono ?_
    rintro e w5 ⟨htold5, hb5⟩
    obtain ⟨A5, c5, rfl, hsl5⟩ := htold5
    have hb05 := hb04.trans (hb5.mono hb04.size)
    have hb35 := hb4.trans (hb5.mono hb4.size)
    have hlr : r.length ≤ 100000 := by have h1 := findL_len HF.out; have := HM.out; omega
    go_wp2_with fail
    refine (ints_same (w := w5) (B := w5.heap.size) true r r (by simp) A4 A5 _ _ _ _ ((hsl4.below hb5).more hb5.size) hsl5 (Nat.le_refl _) hlr hlr).mono ?_
    rintro e w6 ⟨rfl, hb6⟩
    have hb06 := hb05.trans (hb6.mono hb05.size)
    have hb36 := hb35.trans (hb6.mono hb35.size)
    go_wp2_with fail
    refine (HLIN.out w6 hb36).mono ?_
    rintro e w7 ⟨rfl, hb7⟩
    have hb07 := hb06.trans (hb7.mono hb06.size)
    go_wp2_with fail
    go_ret
    exact ⟨rfl, hb07⟩
end Go.Proofs.YtboommppikfgnaaDoor
