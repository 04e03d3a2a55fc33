/- The law LinLegal, walked.
   Conditions: the table of powers of ten lies as laid. -/
import Derived.Test.YtboommppikfgnaaDoorLinAwake
import Derived.Test.YtboommppikfgnaaDoorLinMake
import Derived.Test.YtboommppikfgnaaDoorLinLegW
import Derived.Test.YtboommppikfgnaaDoorLinBeh
import Derived.Test.YtboommppikfgnaaDoorHCallsW
namespace Go.Proofs.YtboommppikfgnaaDoor
open Go Go.RowKit

theorem lin_legal_is (sh : Int) (p : Option Addr) (V : Value) (ok : Bool) (w : World) (h : Calls Tryd.prog 20 #[.int .i64 sh, .pointer p, V] w fun e w' => (∃ v, e = .returned (.tuple #[v, .bool ok])) ∧ Below w.heap.size w w') :
    Calls Tryd.prog 22 #[.int .i64 sh, .pointer p, V] w fun e w' => e = .returned (.bool ok) ∧ Below w.heap.size w w' := by
  go_enter Tryd.func22, Tryd.ntmps22
  go_wp2_with fail
  refine h.mono ?_
  rintro e w1 ⟨⟨v, rfl⟩, hb⟩
  go_wp2_with fail
  go_ret
  exact ⟨rfl, hb⟩
theorem BTold.ok {w' : World} {e : Ending} {ok : Bool} {items : List Int} (h : BTold w' e ok items) : ∃ v, e = .returned (.tuple #[v, .bool ok]) := by
  cases ok
  · exact ⟨_, h⟩
  · obtain ⟨A, c, he, -⟩ := h; exact ⟨_, he⟩

set_option maxRecDepth 100000 in
set_option maxHeartbeats 6400000 in
theorem law_LinLegal (sh : Int) (A Ao : Option Addr) (n c no co : Nat) (evs : List Ev) (ord : List Int) (w : World) (hs : Sl w w.heap.size 7 A n (evs.flatMap Ev.cells)) (hn : evs.length = n) (ho : Sl w w.heap.size 1 Ao no (ints ord)) (hl : ord.length = no) (hco : no ≤ co)
    (htab : ∀ w', Below w.heap.size w w' → Lib.TabIs Tryd.prog w' "internal/strconv.uint64pow10" .u64 Lib.pow10Tab) :
    Calls Tryd.prog 5 #[.int .i64 sh, .slice A n c, .slice Ao no co] w fun e w' => e = .returned (.bool true) ∧ Below w.heap.size w w' := by
  have HAW := Lib.hid (lin_awake w htab)
  have HN := Lib.hid hn
  have HL := Lib.hid hl
  clear htab hn hl
  by_cases hbig : 60 < n
  · go_enter Tryd.func5, Tryd.ntmps5
    go_wp2_with fail
    refine HAW.out.mono ?_
    rintro e w1 ⟨rfl, hb1⟩
    go_wp2_with fail
    go_ret
    exact ⟨rfl, hb1⟩
  have hgt : decide ((60 : Int) < (n : Int)) = false := by simp; omega
  by_cases hbig2 : 20 < no
  · go_enter Tryd.func5, Tryd.ntmps5
    go_wp2_with fail
    refine HAW.out.mono ?_
    rintro e w1 ⟨rfl, hb1⟩
    clear hbig
    go_wp2_with fail
    go_ret
    exact ⟨rfl, hb1⟩
  have hn60 : n ≤ 60 := by omega
  have hn20 : no ≤ 20 := by omega
  have hgt2 : decide ((20 : Int) < (no : Int)) = false := by simp; omega
  clear hbig hbig2
  go_enter Tryd.func5, Tryd.ntmps5
  go_wp2_with fail
  refine HAW.out.mono ?_
  rintro e w1 ⟨rfl, hb1⟩
  have hs1 := (hs.below hb1).more hb1.size
  go_wp2_with fail
  refine (law_make A n c evs w1 hs1 HN.out hn60).mono ?_
  rintro e w2 ⟨b, s, took, v, rfl, hok, htl, hh2, hown2, hb2⟩
  obtain ⟨At, ct, rfl, -, -, -⟩ := own_form hown2
  have hb02 := hb1.trans (hb2.mono hb1.size)
  have hst := Sl.of_own hown2
  go_wp2_with fail
  refine (ref_calls At took.length ct w2.heap.size took w2 hst (Nat.le_refl _) rfl (by omega)).mono ?_
  rintro e w3 ⟨v3, rfl, hown3, hb3⟩
  rw [hok.rc, List.length_map] at hown3
  obtain ⟨Ac, cc, rfl, -, -, -⟩ := own_form hown3
  have hh3 := hh2.step hb3
  have hb03 := hb02.trans (hb3.mono hb02.size)
  have hsl : s.evs.length ≤ 1000 := by have := hok.len; omega
  have hgood := hok.ref.good
  have hnum := numbered_good hgood
  have hcl : s.calls.length ≤ 1000 := by
    have h1 := hgood.wf.le
    omega
  obtain ⟨m, hm⟩ : ∃ m, s.calls.length = m := ⟨_, rfl⟩
  have HM := Lib.hid hm
  have hsr : Sl w3 w3.heap.size 8 Ac s.calls.length ((s.calls.map HC.rc).flatMap RC.cells) := Sl.of_own hown3
  have ho3 := (ho.below hb03).more hb03.size
  have hlegal := fun (W : World) (hW : Below w3.heap.size w3 W) => ref_legal sh (cc := cc) (co := co) ((hsr.step (Nat.le_refl _) hW)) (ho3.step (Nat.le_refl _) hW) hW.size (by rw [List.length_map]) hcl HL.out (by omega) hco
  by_cases hshape : sh < 1 ∨ 4 < sh
  · have hbe := fun W => lin_behind_bad sh (some ⟨b, 0, none⟩) (.slice Ao no co) W (.inl hshape)
    have hle := fun W => lin_legal_is sh (some ⟨b, 0, none⟩) (.slice Ao no co) false W ((hbe W).mono fun e w' ⟨he, hb⟩ => ⟨⟨_, he⟩, hb⟩)
    rw [show decide (1 ≤ sh ∧ sh ≤ 4) = false from decide_eq_false (by omega), Bool.false_and] at hlegal
    have HBE := Lib.hid hbe
    have HLE := Lib.hid hle
    have HLG := Lib.hid hlegal
    clear hbe hle hlegal hshape hm
    go_wp2_with fail
    ((with_reducible refine (HBE.out w3).mono ?_); rintro e w4 ⟨rfl, hb4⟩)
    have hb04 := hb03.trans (hb4.mono hb03.size)
    go_wp2_with fail
    ((with_reducible refine (HLG.out w4 hb4).mono ?_); rintro e w5 ⟨rfl, hb5⟩)
    have hb05 := hb04.trans (hb5.mono hb04.size)
    go_wp2_with fail
    ((with_reducible refine (HLE.out w5).mono ?_); rintro e w6 ⟨rfl, hb6⟩)
    have hb06 := hb05.trans (hb6.mono hb05.size)
    go_wp2_with fail
    go_ret
    exact ⟨rfl, hb06⟩
  have hsh : 1 ≤ sh ∧ sh ≤ 4 := by omega
  rw [show decide (1 ≤ sh ∧ sh ≤ 4) = true from decide_eq_true hsh, Bool.true_and, ← behind_legal hsh hnum ord] at hlegal
  have hbl := behind_legal hsh hnum ord
  have hbe := fun (W : World) (hW : Below w3.heap.size w3 W) => lin_behind sh hsh b s b W (hh3.step hW) hgood hsl hcl Ao no co w3.heap.size ord (ho3.step (Nat.le_refl _) hW) hW.size HL.out (by omega)
  have hle := fun (W : World) (hW : Below w3.heap.size w3 W) => lin_legal_is sh (some ⟨b, 0, none⟩) (.slice Ao no co) _ W ((hbe W hW).mono fun e w' ⟨he, hb⟩ => ⟨he.ok, hb⟩)
  obtain ⟨r, hr⟩ : ∃ r, behindL sh s.calls ord = r := ⟨_, rfl⟩
  rw [hr] at hlegal hbe hle hbl
  have HR := Lib.hid hr
  have HBE := Lib.hid hbe
  have HLE := Lib.hid hle
  have HLG := Lib.hid hlegal
  have HBL := Lib.hid hbl
  clear hbe hle hlegal hshape hr hbl hm
  go_wp2_with fail
  refine (HBE.out w3 (Below.refl _ _)).mono ?_
  rintro e w4 ⟨ht4, hb4⟩
  have hb04 := hb03.trans (hb4.mono hb03.size)
  cases r with
  | false =>
    obtain rfl := ht4
    go_wp2_with fail
    ((with_reducible refine (HLG.out w4 hb4).mono ?_); rintro e w5 ⟨rfl, hb5⟩)
    have hb05 := hb04.trans (hb5.mono hb04.size)
    have hb35 := hb4.trans (hb5.mono hb4.size)
    go_wp2_with fail
    ((with_reducible refine (HLE.out w5 hb35).mono ?_); rintro e w6 ⟨rfl, hb6⟩)
    have hb06 := hb05.trans (hb6.mono hb05.size)
    go_wp2_with fail
    go_ret
    exact ⟨rfl, hb06⟩
  | true =>
    obtain ⟨A4, c4, rfl, hsl4⟩ := ht4
    have hfit : fitsTo sh (s.calls.map HC.rc) ord ord.length = true := by
      have := HBL.out
      unfold legalR at this
      exact (Bool.and_eq_true_iff.1 this.symm).1
    have hpass := fitsTo_pass hsh ord.length (Nat.le_refl _) hfit
    have hvalid : ValidR (s.calls.map HC.rc) ord := by
      have := fitsTo_valid hfit
      rwa [List.take_length] at this
    have hmay : allMay sh (didL s.calls ord) := by
      have := pass_may (sh := sh) (hs := s.calls) (ord := ord) ord.length (Nat.le_refl _) hpass
      rwa [List.take_length] at this
    have hir := items_ref sh _ hsh hmay
    have hops := fun (W : World) (hW : Below w3.heap.size w3 W) => ref_ops (cc := cc) (co := co) (hsr.step (Nat.le_refl _) hW) (ho3.step (Nat.le_refl _) hW) hW.size (by rw [List.length_map]) HL.out (by omega) hvalid
    have hdl : opsR (s.calls.map HC.rc) ord = didL s.calls ord := rfl
    rw [hdl] at hops
    have hdlen : (didL s.calls ord).length ≤ 20 := by
      have := opsR_len (cs := s.calls.map HC.rc) ord
      unfold didL; have := HL.out; omega
    have HIR := Lib.hid hir
    have HOPS := Lib.hid hops
    clear hfit hpass hvalid hmay hir hops hdl
    obtain ⟨did, hdid⟩ : ∃ did, didL s.calls ord = did := ⟨_, rfl⟩
    rw [hdid] at hsl4 HIR HOPS hdlen ⊢
    have hil := itemsOf_len sh did
    obtain ⟨items, hit⟩ : ∃ items, itemsOf sh did = items := ⟨_, rfl⟩
    rw [hit] at hsl4 HIR hil ⊢
    go_wp2_with fail
    ((with_reducible refine (HLG.out w4 hb4).mono ?_); rintro e w5 ⟨rfl, hb5⟩)
    have hb05 := hb04.trans (hb5.mono hb04.size)
    have hb35 := hb4.trans (hb5.mono hb4.size)
    go_wp2_with fail
    ((with_reducible refine (HLE.out w5 hb35).mono ?_); rintro e w6 ⟨rfl, hb6⟩)
    have hb06 := hb05.trans (hb6.mono hb05.size)
    have hb36 := hb35.trans (hb6.mono hb35.size)
    have hb46 := hb5.trans (hb6.mono hb5.size)
    go_wp2_with fail
    ((with_reducible refine (HOPS.out w6 hb36).mono ?_); rintro e w7 ⟨⟨v7, rfl, hown7⟩, hb7⟩)
    obtain ⟨A7, c7, rfl, hc7, -, -⟩ := own_form hown7
    have hb07 := hb06.trans (hb7.mono hb06.size)
    have hb47 := hb46.trans (hb7.mono hb46.size)
    go_wp2_with fail
    refine (ref_Items (c := c7) sh (Sl.of_own hown7) (Nat.le_refl _) rfl (by omega) hc7).mono ?_
    rintro e w8 ⟨v8, rfl, hrow8, hb8⟩
    have hb08 := hb07.trans (hb8.mono hb07.size)
    have hb48 := hb47.trans (hb8.mono hb47.size)
    rw [← HIR.out] at hrow8
    obtain ⟨A8, c8, rfl, hc8, hs8⟩ := hrow8
    have hsl48 := (hsl4.below hb48).more hb48.size
    go_wp2_with fail
    ((with_reducible refine (ints_same (w := w8) (B := w8.heap.size) true items items (by simp) A4 A8 _ _ _ _ hsl48 hs8 (Nat.le_refl _) (by omega) (by omega)).mono ?_); rintro e w9 ⟨rfl, hb9⟩)
    go_wp2_with fail
    go_ret
    exact ⟨rfl, hb08.trans (hb9.mono hb08.size)⟩
end Go.Proofs.YtboommppikfgnaaDoor
