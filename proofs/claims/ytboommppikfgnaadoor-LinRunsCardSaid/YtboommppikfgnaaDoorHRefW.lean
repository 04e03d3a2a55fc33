/- Contracts of the document's functions on events: Pending, Error, bare, Before.
   Conditions: at most 1000 events. -/
import Derived.Test.YtboommppikfgnaaDoorHRef
import Derived.Test.YtboommppikfgnaaDoorHa
namespace Go.Proofs.YtboommppikfgnaaDoor
open Go Go.RowKit

theorem evSz : (Tryd.prog.info? 65).map (·.size) = some 7 := by kernel_rfl

set_option maxRecDepth 10000 in
set_option maxHeartbeats 400000 in
theorem ref_pending (A : Option Addr) (n c B : Nat) (t : Int) (evs : List Ev) (w : World) (hs : Sl w B 7 A n (evs.flatMap Ev.cells)) (hel : evs.length = n) (hn : n ≤ 1000) :
    Calls Tryd.prog 42 #[.slice A n c, .int .i64 t] w fun e w' => e = .returned (.bool (Pd evs t)) ∧ w = w' := by
  have HL := Lib.hid hel
  have hpd : Pd evs t = PdTo evs n t := by rw [← hel]; rfl
  rw [hpd]
  clear hel hpd
  go_enter Tryd.func42, Tryd.ntmps42
  go_wp2
  go_loop [4, 5] (fun r i => ∃ k : Nat, k ≤ n ∧ r = .bool false ∧ i = .int .i64 ((k : Int) - 1) ∧ PdTo evs n t = PdTo evs k t) (fun r i => (intOf i + 1).toNat)
  case atStart => exact ⟨n, by omega, rfl, rfl, rfl⟩
  case round =>
    obtain ⟨k, hk, rfl, rfl, hp⟩ := hrel
    by_cases h0 : 0 < k
    · obtain ⟨k, rfl⟩ : ∃ k', k = k' + 1 := ⟨k - 1, by omega⟩
      obtain ⟨e, he⟩ : ∃ e, evs[k]? = some e := ⟨_, List.getElem?_eq_getElem (by rw [HL.out]; omega)⟩
      have hidx := hs.idx (P := Tryd.prog) (c := c) Tryd.underlying22 evSz (k := k) (by omega)
      obtain ⟨f0, f1, f2, f3, f4, f5, f6⟩ := ev_cells hs (k := k) (by omega) he
      have hstep : PdTo evs (k + 1) t = if e.th = t then !e.ends else PdTo evs k t := by simp only [PdTo, he]
      rw [hstep] at hp
      by_cases het : e.th = t
      · have hb : (e.th == t) = true := by simpa using het
        rw [if_pos het] at hp
        have HP := Lib.hid hp
        clear hp het hstep he
        go_wp2
        go_ret
        exact ⟨ret_bool HP.out.symm, rfl⟩
      · have hb : (e.th == t) = false := by simpa using het
        rw [if_neg het] at hp
        have HP := Lib.hid hp
        clear hp het hstep he
        go_wp2
        go_round
        case rel => exact ⟨k, by omega, rfl, rfl, HP.out⟩
        case measure => simp [intOf]
    · obtain rfl : k = 0 := by omega
      have hp0 : PdTo evs n t = false := hp
      have HP := Lib.hid hp0
      clear hp hp0
      go_wp2
      go_ret
      exact ⟨ret_bool HP.out.symm, rfl⟩

theorem ref_pending_is (A : Option Addr) (n c B : Nat) (t : Int) (evs : List Ev) (w : World) (r : Bool) (hr : Pd evs t = r) (hs : Sl w B 7 A n (evs.flatMap Ev.cells)) (hel : evs.length = n) (hn : n ≤ 1000) :
    Calls Tryd.prog 42 #[.slice A n c, .int .i64 t] w fun e w' => e = .returned (.bool r) ∧ w = w' := by
  subst hr; exact ref_pending A n c B t evs w hs hel hn

abbrev evAgg (e : Ev) : Value := .agg #[.int .i64 e.th, .bool e.ends, .int .i64 e.kind, .int .i64 e.key, .int .i64 e.code, .bool e.ok, .int .i64 e.val]

set_option maxRecDepth 10000 in
set_option maxHeartbeats 800000 in
theorem ref_error (A : Option Addr) (n c B : Nat) (e : Ev) (evs : List Ev) (w : World) (hs : Sl w B 7 A n (evs.flatMap Ev.cells)) (hB : B ≤ w.heap.size) (hel : evs.length = n) (hn : n ≤ 1000) :
    Calls Tryd.prog 26 #[.slice A n c, .agg #[.int .i64 e.th, .bool e.ends, .int .i64 e.kind, .int .i64 e.key, .int .i64 e.code, .bool e.ok, .int .i64 e.val]] w fun r w' => r = .returned (.int .i64 (Er evs e)) ∧ Below w.heap.size w w' := by
  have hb : Below w.heap.size w (w.alloc (.cells #[.int .i64 e.th, .bool e.ends, .int .i64 e.kind, .int .i64 e.key, .int .i64 e.code, .bool e.ok, .int .i64 e.val] 65)) := (Below.refl _ _).alloc (Nat.le_refl _) _
  have hs1 := hs.step hB hb
  by_cases h0 : e.th < 0
  · have hr : Er evs e = 2 := by unfold Er; rw [if_pos (.inl h0)]
    have HR := Lib.hid hr
    clear hr
    go_enter Tryd.func26, Tryd.ntmps26
    go_wp2_with fail
    go_ret
    exact ⟨ret_int HR.out.symm, hb⟩
  by_cases h7 : 7 < e.th
  · have hr : Er evs e = 2 := by unfold Er; rw [if_pos (.inr h7)]
    have HR := Lib.hid hr
    have d0 : decide (e.th < 0) = false := by simp; omega
    clear hr
    go_enter Tryd.func26, Tryd.ntmps26
    go_wp2_with fail
    go_ret
    exact ⟨ret_int HR.out.symm, hb⟩
  have d0 : decide (e.th < 0) = false := by simp; omega
  have d7 : decide (7 < e.th) = false := by simp; omega
  have hr : Er evs e = if e.ends = false ∧ Pd evs e.th = true then 1 else if e.ends = true ∧ Pd evs e.th = false then 5 else 0 := by unfold Er; rw [if_neg (by omega)]
  cases hen : e.ends with
  | true =>
    cases hpd : Pd evs e.th with
    | true =>
      have hr' : Er evs e = 0 := by rw [hr]; simp [hen, hpd]
      have HR := Lib.hid hr'
      have HP := Lib.hid hpd
      rw [hen] at hb hs1
      clear hr hr' hpd hen
      go_enter Tryd.func26, Tryd.ntmps26
      go_wp2_with (go_at_call 42; refine (ref_pending_is _ _ _ _ _ _ _ _ HP.out hs1 hel hn).mono ?_; rintro e' w1 ⟨rfl, rfl⟩)
      go_ret
      exact ⟨ret_int HR.out.symm, hb⟩
    | false =>
      have hr' : Er evs e = 5 := by rw [hr]; simp [hen, hpd]
      have HR := Lib.hid hr'
      have HP := Lib.hid hpd
      rw [hen] at hb hs1
      clear hr hr' hpd hen
      go_enter Tryd.func26, Tryd.ntmps26
      go_wp2_with (go_at_call 42; refine (ref_pending_is _ _ _ _ _ _ _ _ HP.out hs1 hel hn).mono ?_; rintro e' w1 ⟨rfl, rfl⟩)
      go_ret
      exact ⟨ret_int HR.out.symm, hb⟩
  | false =>
    cases hpd : Pd evs e.th with
    | true =>
      have hr' : Er evs e = 1 := by rw [hr]; simp [hen, hpd]
      have HR := Lib.hid hr'
      have HP := Lib.hid hpd
      rw [hen] at hb hs1
      clear hr hr' hpd hen
      go_enter Tryd.func26, Tryd.ntmps26
      go_wp2_with (go_at_call 42; refine (ref_pending_is _ _ _ _ _ _ _ _ HP.out hs1 hel hn).mono ?_; rintro e' w1 ⟨rfl, rfl⟩)
      go_ret
      exact ⟨ret_int HR.out.symm, hb⟩
    | false =>
      have hr' : Er evs e = 0 := by rw [hr]; simp [hen, hpd]
      have HR := Lib.hid hr'
      have HP := Lib.hid hpd
      rw [hen] at hb hs1
      clear hr hr' hpd hen
      go_enter Tryd.func26, Tryd.ntmps26
      go_wp2_with (go_at_call 42; refine (ref_pending_is _ _ _ _ _ _ _ _ HP.out hs1 hel hn).mono ?_; rintro e' w1 ⟨rfl, rfl⟩)
      go_ret
      exact ⟨ret_int HR.out.symm, hb⟩

set_option maxHeartbeats 400000 in
theorem ref_before (a b : RC) (w : World) :
    Calls Tryd.prog 50 #[.agg #[.int .i64 a.th, .int .i64 a.began, .int .i64 a.ended, .int .i64 a.kind, .int .i64 a.key, .int .i64 a.code, .bool a.ok, .int .i64 a.val], .agg #[.int .i64 b.th, .int .i64 b.began, .int .i64 b.ended, .int .i64 b.kind, .int .i64 b.key, .int .i64 b.code, .bool b.ok, .int .i64 b.val]] w fun r w' =>
      r = .returned (.bool (spanB a.ended b.began)) ∧ Below w.heap.size w w' := by
  by_cases h : 0 ≤ a.ended
  · have h1 : decide (a.ended < 0) = false := by simp; omega
    have hs : spanB a.ended b.began = decide (a.ended < b.began) := by simp [spanB, h1]
    rw [hs]
    clear hs h1
    go_enter Tryd.func50, Tryd.ntmps50
    go_wp2
    go_ret
    exact ⟨rfl, ((Below.refl _ _).alloc (Nat.le_refl _) _).alloc (by simp) _⟩
  · have h1 : decide (a.ended < 0) = true := by simp; omega
    have hs : spanB a.ended b.began = false := by simp [spanB, h1]
    rw [hs]
    clear hs h1
    go_enter Tryd.func50, Tryd.ntmps50
    go_wp2
    go_ret
    exact ⟨rfl, ((Below.refl _ _).alloc (Nat.le_refl _) _).alloc (by simp) _⟩

end Go.Proofs.YtboommppikfgnaaDoor
