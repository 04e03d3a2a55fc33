/- slices.Clone at hist's events and calls; Hist.Events, Hist.Calls.
   Conditions: at most 1000 elements. -/
import Derived.Test.YtboommppikfgnaaDoorHc
import Derived.Test.YtboommppikfgnaaDoorApp
namespace Go.Proofs.YtboommppikfgnaaDoor
open Go Go.RowKit

theorem flat_one {α : Type} (f : α → List Value) (hf : ∀ x, ∀ u ∈ f x, u.oneCell' = true) (l : List α) : ∀ u ∈ l.flatMap f, u.oneCell' = true := by
  intro u hu
  obtain ⟨x, _, hx⟩ := List.mem_flatMap.1 hu
  exact hf x u hx

set_option maxHeartbeats 400000 in
theorem clone_Call (A : Option Addr) (n c B : Nat) (xs : List Value) (w : World) (hr : Sl w B 9 A n xs) (hB : B ≤ w.heap.size) (h1 : ∀ u ∈ xs, u.oneCell' = true) (hn : n ≤ 1000) (hnil : A = none → n = 0 ∧ c = 0) :
    Calls Tryd.prog 56 #[.slice A n c] w fun e w' => ∃ v, e = .returned v ∧ w'.ownsRow w.heap.size 88 9 v n xs ∧ Below w.heap.size w w' := by
  obtain ⟨i0, hi, hz0, hz1, hz2⟩ := info_parts info_Call
  cases A with
  | none =>
    obtain ⟨rfl, rfl⟩ := hnil rfl
    have hx : xs = [] := List.eq_nil_of_length_eq_zero (by simpa using hr.len)
    subst hx
    have hq := fun w : World => Lib.run_eql_slice_nil (P := Tryd.prog) w 73 88 none 0 0 0 0 Tryd.underlying73
    go_enter Tryd.func56, Tryd.ntmps56
    go_wp2
    go_ret
    exact ⟨_, rfl, World.ownsRow_nil _ _ _ _, Below.refl _ _⟩
  | some a =>
    have hq := fun w : World => Lib.run_eql_slice_nil (P := Tryd.prog) w 73 88 (some a) n c 0 0 Tryd.underlying73
    have ho := own_zero w 88 9 (Nat.le_refl _) rfl
    have hs : Sl (w.alloc (.cells #[] 88)) B 9 (some a) n xs := hr.step hB ((Below.refl _ _).alloc (Nat.le_refl _) _)
    go_enter Tryd.func56, Tryd.ntmps56
    go_wp2_with (at_builtin; refine wpList_append_sl _ rfl _ _ _ rfl w.heap.size 88 i0 _ 9 72 Tryd.underlying73 hi hz0 hz1 hz2 rfl (by omega) (.slice (some ⟨w.heap.size, 0, none⟩) 0 0) 0 [] rfl ho B (some a) n c xs rfl hs h1 (by unfold maxLen; omega) (by omega) (by simp) ?_; intro v1 w1 hown1 hg1 hat1)
    go_ret
    exact ⟨_, rfl, by simpa using hown1, ((Below.refl _ _).alloc (Nat.le_refl _) _).grown hg1 (by simp) (by simp [Value.ownBlock])⟩

set_option maxHeartbeats 400000 in
theorem hist_calls (b : Nat) (s : HS) (B : Nat) (w : World) (h : HAt w B b s) (hsz : s.evs.length ≤ 1000) :
    Calls Tryd.prog 44 #[.pointer (some ⟨b, 0, none⟩)] w fun e w' => ∃ v, e = .returned v ∧ w'.ownsRow w.heap.size 88 9 v s.calls.length (s.calls.flatMap HC.cells) ∧ Below w.heap.size w w' := by
  obtain ⟨v1, v2, cs, hr⟩ := h.at_
  have hle := h.wf.le
  obtain ⟨A, c, rfl, -, hnil, -⟩ := own_form hr.o2
  have hcell := hr.f1
  have hsl := Sl.of_own hr.o2
  have h1 := flat_one HC.cells HC.cells_one s.calls
  have HN := Lib.hid hnil
  clear hr h hnil
  go_enter Tryd.func44, Tryd.ntmps44
  go_wp2_with (go_at_call 56; refine (clone_Call _ _ _ _ _ _ hsl (Nat.le_refl _) h1 (by omega) HN.out).mono ?_; rintro e w1 ⟨v, rfl, ho, hb⟩)
  go_ret
  exact ⟨_, rfl, ho, hb⟩

end Go.Proofs.YtboommppikfgnaaDoor
