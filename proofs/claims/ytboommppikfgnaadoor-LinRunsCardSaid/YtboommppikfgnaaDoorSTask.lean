/- Contracts of task: which operations are of a shape.
   Conditions: none. -/
import Derived.Test.YtboommppikfgnaaDoorSOps
import Derived.Test.YtboommppikfgnaaDoorPhase
import Derived.Test.YtboommppikfgnaaDoorRows
import Derived.WalkSpells
import Derived.WalkLawsBesides
import Derived.Lib.Hide
import Derived.Deep.QuietTactic
import Derived.BigQuiet
import Derived.Deep.LoopGhost
namespace Go.Proofs.YtboommppikfgnaaDoor
open Go Go.RowKit

def kindsL (sh : Int) : List Int := if sh = 1 ∨ sh = 2 then [1, 2, 3] else if sh = 3 ∨ sh = 4 then [4, 5] else []

theorem task_set (sh : Int) (w : World) : Calls Tryd.prog 69 #[.int .i64 sh] w fun e w' => e = .returned (.bool (decide (sh = 1 ∨ sh = 2))) ∧ w' = w := by
  by_cases h1 : sh = 1
  · subst h1
    go_enter Tryd.func69, Tryd.ntmps69
    go_wp2
    go_ret
    exact ⟨rfl, rfl⟩
  · by_cases h2 : sh = 2
    · subst h2
      go_enter Tryd.func69, Tryd.ntmps69
      go_wp2
      go_ret
      exact ⟨rfl, rfl⟩
    · have e1 : (sh == 1) = false := by simpa using h1
      have e2 : (sh == 2) = false := by simpa using h2
      have H := Lib.hid (show decide (sh = 1 ∨ sh = 2) = false by simp [h1, h2])
      clear h1 h2
      go_enter Tryd.func69, Tryd.ntmps69
      go_wp2
      go_ret
      exact ⟨by rw [H.out]; rfl, rfl⟩
theorem task_line (sh : Int) (w : World) : Calls Tryd.prog 70 #[.int .i64 sh] w fun e w' => e = .returned (.bool (decide (sh = 3 ∨ sh = 4))) ∧ w' = w := by
  by_cases h1 : sh = 3
  · subst h1
    go_enter Tryd.func70, Tryd.ntmps70
    go_wp2
    go_ret
    exact ⟨rfl, rfl⟩
  · by_cases h2 : sh = 4
    · subst h2
      go_enter Tryd.func70, Tryd.ntmps70
      go_wp2
      go_ret
      exact ⟨rfl, rfl⟩
    · have e1 : (sh == 3) = false := by simpa using h1
      have e2 : (sh == 4) = false := by simpa using h2
      have H := Lib.hid (show decide (sh = 3 ∨ sh = 4) = false by simp [h1, h2])
      clear h1 h2
      go_enter Tryd.func70, Tryd.ntmps70
      go_wp2
      go_ret
      exact ⟨by rw [H.out]; rfl, rfl⟩

theorem sl_of_blk {w : World} {g n : Nat} {t : TypeId} {l : List Int} (h : Blk w g t (ints l).toArray) (hn : l.length = n) : Sl w w.heap.size 1 (some ⟨g, 0, none⟩) n (ints l) := by
  refine ⟨by rw [ints_len]; omega, fun _ => rfl, fun _ => h.lt, fun j hj => ?_⟩
  simp only [ablk, aoff, Option.map_some, Option.getD_some, Nat.zero_add]
  rw [h.cell]; simp

theorem task_kinds (sh : Int) (w : World) : Calls Tryd.prog 60 #[.int .i64 sh] w fun e w' =>
    ∃ A, e = .returned (.slice A (kindsL sh).length (kindsL sh).length) ∧ Sl w' w'.heap.size 1 A (kindsL sh).length (ints (kindsL sh)) ∧ Below w.heap.size w w' := by
  by_cases h1 : sh = 1 ∨ sh = 2
  · have hk : kindsL sh = [1, 2, 3] := if_pos h1
    have H := Lib.hid (show decide (sh = 1 ∨ sh = 2) = true by simpa using h1)
    rw [hk]
    clear hk h1
    go_enter Tryd.func60, Tryd.ntmps60
    go_wp2_with (go_at_call 69; refine (task_set _ _).mono ?_; rw [H.out]; rintro e w' ⟨rfl, rfl⟩)
    go_ret
    exact ⟨_, rfl, sl_of_blk (l := [1, 2, 3]) (Blk.new _ _ _) rfl, (Below.refl _ _).alloc (Nat.le_refl _) _⟩
  · have H := Lib.hid (show decide (sh = 1 ∨ sh = 2) = false by simpa using h1)
    by_cases h2 : sh = 3 ∨ sh = 4
    · have hk : kindsL sh = [4, 5] := by rw [kindsL, if_neg h1, if_pos h2]
      have H2 := Lib.hid (show decide (sh = 3 ∨ sh = 4) = true by simpa using h2)
      rw [hk]
      clear hk h1 h2
      go_enter Tryd.func60, Tryd.ntmps60
      go_wp2_with (first | (go_at_call 69; refine (task_set _ _).mono ?_; rw [H.out]; rintro e w' ⟨rfl, rfl⟩) | (go_at_call 70; refine (task_line _ _).mono ?_; rw [H2.out]; rintro e w' ⟨rfl, rfl⟩))
      go_ret
      exact ⟨_, rfl, sl_of_blk (l := [4, 5]) (Blk.new _ _ _) rfl, (Below.refl _ _).alloc (Nat.le_refl _) _⟩
    · have hk : kindsL sh = [] := by rw [kindsL, if_neg h1, if_neg h2]
      have H2 := Lib.hid (show decide (sh = 3 ∨ sh = 4) = false by simpa using h2)
      rw [hk]
      clear hk h1 h2
      go_enter Tryd.func60, Tryd.ntmps60
      go_wp2_with (first | (go_at_call 69; refine (task_set _ _).mono ?_; rw [H.out]; rintro e w' ⟨rfl, rfl⟩) | (go_at_call 70; refine (task_line _ _).mono ?_; rw [H2.out]; rintro e w' ⟨rfl, rfl⟩))
      go_ret
      exact ⟨none, rfl, Sl.nil_ _ _ _, Below.refl _ _⟩

theorem in3 (k : Int) : ([1, 2, 3] : List Int).contains k = true ↔ 1 ≤ k ∧ k ≤ 3 := by
  rw [List.contains_iff_mem]
  simp only [List.mem_cons, List.not_mem_nil, or_false]
  omega
theorem in2 (k : Int) : ([4, 5] : List Int).contains k = true ↔ 4 ≤ k ∧ k ≤ 5 := by
  rw [List.contains_iff_mem]
  simp only [List.mem_cons, List.not_mem_nil, or_false]
  omega
theorem may_eq (sh kind key : Int) : may sh ⟨kind, key⟩ = ((kindsL sh).contains kind && decide (0 ≤ key) && decide (key ≤ if kind = 5 then 0 else 999)) := by
  have e : may sh ⟨kind, key⟩ = decide (mayP sh kind key) := rfl
  rw [e, Bool.eq_iff_iff, decide_eq_true_eq, Bool.and_eq_true, Bool.and_eq_true, decide_eq_true_eq, decide_eq_true_eq]
  unfold mayP kindsL
  by_cases h1 : sh = 1 ∨ sh = 2
  · rw [if_pos h1, in3]
    by_cases h5 : kind = 5
    · rw [if_pos h5]; omega
    · rw [if_neg h5]; omega
  · rw [if_neg h1]
    by_cases h2 : sh = 3 ∨ sh = 4
    · rw [if_pos h2, in2]
      by_cases h5 : kind = 5
      · rw [if_pos h5]; omega
      · rw [if_neg h5]; omega
    · rw [if_neg h2]
      simp only [List.contains_nil, Bool.false_eq_true, false_and, iff_false]
      omega

set_option maxRecDepth 100000 in
set_option maxHeartbeats 1600000 in
theorem task_Right (sh kind key : Int) (w : World) : Calls Tryd.prog 52 #[.int .i64 sh, .agg #[.int .i64 kind, .int .i64 key]] w fun e w' =>
    e = .returned (.bool (may sh ⟨kind, key⟩)) ∧ Below w.heap.size w w' := by
  rw [may_eq]
  obtain ⟨m, hm⟩ : ∃ m : Int, m = if kind = 5 then 0 else 999 := ⟨_, rfl⟩
  obtain ⟨c, hc⟩ : ∃ c, c = (kindsL sh).contains kind := ⟨_, rfl⟩
  rw [← hm, ← hc]
  have hs : ∀ (A : Option Addr) (W : World), Sl W W.heap.size 1 A (kindsL sh).length (ints (kindsL sh)) → Calls Tryd.prog 59 #[.slice A (kindsL sh).length (kindsL sh).length, .int .i64 kind] W fun e w' => e = .returned (.bool c) ∧ w' = W := fun A W hS => by
    rw [hc]
    exact contains_sl A _ _ _ _ _ _ hS (by unfold kindsL; split <;> (try split) <;> simp)
  have hk := task_kinds sh
  have h5 : ((kind == 5) = true ∧ m = 0) ∨ ((kind == 5) = false ∧ m = 999) := by
    by_cases h : kind = 5
    · exact .inl ⟨by simpa using h, by rw [hm, if_pos h]⟩
    · exact .inr ⟨by simpa using h, by rw [hm, if_neg h]⟩
  have HS := Lib.hid hs
  have HK := Lib.hid hk
  clear hs hk hc hm
  generalize kindsL sh = L at *
  have h0 : decide (0 ≤ key) = true ∨ decide (0 ≤ key) = false := by cases decide (0 ≤ key) <;> simp
  rcases h5 with ⟨e5, rfl⟩ | ⟨e5, rfl⟩ <;> rcases c with _ | _ <;> rcases h0 with h0 | h0
  all_goals
    go_enter Tryd.func52, Tryd.ntmps52
    go_wp2_with fail
    have hx := Blk.new w 43 #[.int .i64 kind, .int .i64 key]
    have k0 : Below w.heap.size w (w.alloc (.cells #[.int .i64 kind, .int .i64 key] 43)) := (Below.refl _ _).alloc (Nat.le_refl _) _
    generalize (w.alloc (.cells #[.int .i64 kind, .int .i64 key] 43)) = W at *
    have hws := k0.size
    have qx := Later.cells hx hx.lt
    refine wp_region_ph (fun w' => ∃ q : Later W.heap.size W, w' = q.val) 16 [([0, 2, 3], 1), ([], 4)] [5, 6, 7, 8, 9, 10, 11, 12, 13, 14, 15] [16] (by kernel_rfl) (by kernel_rfl) (Later.mk_ (Below.refl _ _).drew) ?_
    refine wpPh_cons ?_
    simp only [opsAt, List.map_cons, List.map_nil, List.getD_cons_zero, List.getD_cons_succ]
    repeat (go_big_quiet_step (fail))
    refine wpQuiet_nil ?_
    refine wpPh_op rfl (fun K hK => ?_)
    go_simp
    refine (HK.out _).mono ?_
    rintro e w1 ⟨A, rfl, hS, hb⟩
    have hb1 : Below W.heap.size W w1 := (Below.refl _ _).drew.trans hb
    refine hK _ _ (Later.mk_ hb1) ?_
    clear hK K
    refine wpPh_cons ?_
    refine wpQuiet_nil ?_
    refine wpPh_op rfl (fun K hK => ?_)
    go_simp
    refine (HS.out A _ hS).mono ?_
    rintro e w2 ⟨rfl, rfl⟩
    refine hK _ _ (Later.mk_ hb1) ?_
    clear hK K
    refine wpPh_nil ?_
    repeat (go_big_quiet_step (fail))
    refine wpQuiet_nil ?_
    refine wpTail_late _ _ _ (by kernel_rfl) ?_
    simp only [opsAt, List.map_cons, List.map_nil, List.getD_cons_zero, List.getD_cons_succ]
    go_wp2_with fail
    refine NoPanic.normal ?_
    go_wp2_with fail
    go_ret
    exact ⟨by first | rfl | (rw [h0]; simp) | simp [h0], k0.trans (hb1.mono hws)⟩
end Go.Proofs.YtboommppikfgnaaDoor
