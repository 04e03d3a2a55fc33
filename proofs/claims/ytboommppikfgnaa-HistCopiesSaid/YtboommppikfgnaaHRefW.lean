/- Contracts of the document's functions on events: Pending, Error, bare, Before.
   Conditions: at most 1000 events. -/
import Derived.Test.YtboommppikfgnaaHRef
import Derived.Test.YtboommppikfgnaaHa
namespace Go.Proofs.Ytboommppikfgnaa
open Go Go.RowKit

theorem evSz : (Try.prog.info? 38).map (·.size) = some 7 := by kernel_rfl

set_option maxRecDepth 10000 in
set_option maxHeartbeats 400000 in
theorem ref_pending (A : Option Addr) (n c B : Nat) (t : Int) (evs : List Ev) (w : World) (hs : Sl w B 7 A n (evs.flatMap Ev.cells)) (hel : evs.length = n) (hn : n ≤ 1000) :
    Calls Try.prog 24 #[.slice A n c, .int .i64 t] w fun e w' => e = .returned (.bool (Pd evs t)) ∧ w = w' := by
  have HL := Lib.hid hel
  have hpd : Pd evs t = PdTo evs n t := by rw [← hel]; rfl
  rw [hpd]
  clear hel hpd
  go_enter Try.func24, Try.ntmps24
  go_wp2
  go_loop [4, 5] (fun r i => ∃ k : Nat, k ≤ n ∧ r = .bool false ∧ i = .int .i64 ((k : Int) - 1) ∧ PdTo evs n t = PdTo evs k t) (fun r i => (intOf i + 1).toNat)
  case atStart => exact ⟨n, by omega, rfl, rfl, rfl⟩
  case round =>
    obtain ⟨k, hk, rfl, rfl, hp⟩ := hrel
    by_cases h0 : 0 < k
    · obtain ⟨k, rfl⟩ : ∃ k', k = k' + 1 := ⟨k - 1, by omega⟩
      obtain ⟨e, he⟩ : ∃ e, evs[k]? = some e := ⟨_, List.getElem?_eq_getElem (by rw [HL.out]; omega)⟩
      have hidx := hs.idx (P := Try.prog) (c := c) Try.underlying29 evSz (k := k) (by omega)
      obtain ⟨f0, f1, f2, f3, f4, f5, f6⟩ := ev_cells hs (k := k) (by omega) he
      have hstep : PdTo evs (k + 1) t = if e.th = t then !e.ends else PdTo evs k t := by simp only [PdTo, he]
      rw [hstep] at hp
      by_cases het : e.th = t
      · have hb : (e.th == t) = true := by simpa using het
        rw [if_pos het] at hp
        have HP := Lib.hid hp
        clear hp het hstep he
        go_wp2
        go_ret
        exact ⟨ret_bool HP.out.symm, rfl⟩
      · have hb : (e.th == t) = false := by simpa using het
        rw [if_neg het] at hp
        have HP := Lib.hid hp
        clear hp het hstep he
        go_wp2
        go_round
        case rel => exact ⟨k, by omega, rfl, rfl, HP.out⟩
        case measure => simp [intOf]
    · obtain rfl : k = 0 := by omega
      have hp0 : PdTo evs n t = false := hp
      have HP := Lib.hid hp0
      clear hp hp0
      go_wp2
      go_ret
      exact ⟨ret_bool HP.out.symm, rfl⟩

theorem ref_pending_is (A : Option Addr) (n c B : Nat) (t : Int) (evs : List Ev) (w : World) (r : Bool) (hr : Pd evs t = r) (hs : Sl w B 7 A n (evs.flatMap Ev.cells)) (hel : evs.length = n) (hn : n ≤ 1000) :
    Calls Try.prog 24 #[.slice A n c, .int .i64 t] w fun e w' => e = .returned (.bool r) ∧ w = w' := by
  subst hr; exact ref_pending A n c B t evs w hs hel hn

abbrev evAgg (e : Ev) : Value := .agg #[.int .i64 e.th, .bool e.ends, .int .i64 e.kind, .int .i64 e.key, .int .i64 e.code, .bool e.ok, .int .i64 e.val]

set_option maxRecDepth 10000 in
set_option maxHeartbeats 800000 in
theorem ref_error (A : Option Addr) (n c B : Nat) (e : Ev) (evs : List Ev) (w : World) (hs : Sl w B 7 A n (evs.flatMap Ev.cells)) (hB : B ≤ w.heap.size) (hel : evs.length = n) (hn : n ≤ 1000) :
    Calls Try.prog 22 #[.slice A n c, .agg #[.int .i64 e.th, .bool e.ends, .int .i64 e.kind, .int .i64 e.key, .int .i64 e.code, .bool e.ok, .int .i64 e.val]] w fun r w' => r = .returned (.int .i64 (Er evs e)) ∧ Below w.heap.size w w' := by
  have hb : Below w.heap.size w (w.alloc (.cells #[.int .i64 e.th, .bool e.ends, .int .i64 e.kind, .int .i64 e.key, .int .i64 e.code, .bool e.ok, .int .i64 e.val] 38)) := (Below.refl _ _).alloc (Nat.le_refl _) _
  have hs1 := hs.step hB hb
  by_cases h0 : e.th < 0
  · have hr : Er evs e = 2 := by unfold Er; rw [if_pos (.inl h0)]
    have HR := Lib.hid hr
    clear hr
    go_enter Try.func22, Try.ntmps22
    go_wp2_with fail
    go_ret
    exact ⟨ret_int HR.out.symm, hb⟩
  by_cases h7 : 7 < e.th
  · have hr : Er evs e = 2 := by unfold Er; rw [if_pos (.inr h7)]
    have HR := Lib.hid hr
    have d0 : decide (e.th < 0) = false := by simp; omega
    clear hr
    go_enter Try.func22, Try.ntmps22
    go_wp2_with fail
    go_ret
    exact ⟨ret_int HR.out.symm, hb⟩
  have d0 : decide (e.th < 0) = false := by simp; omega
  have d7 : decide (7 < e.th) = false := by simp; omega
  have hr : Er evs e = if e.ends = false ∧ Pd evs e.th = true then 1 else if e.ends = true ∧ Pd evs e.th = false then 5 else 0 := by unfold Er; rw [if_neg (by omega)]
  cases hen : e.ends with
  | true =>
    cases hpd : Pd evs e.th with
    | true =>
      have hr' : Er evs e = 0 := by rw [hr]; simp [hen, hpd]
      have HR := Lib.hid hr'
      have HP := Lib.hid hpd
      rw [hen] at hb hs1
      clear hr hr' hpd hen
      go_enter Try.func22, Try.ntmps22
      go_wp2_with (go_at_call 24; refine (ref_pending_is _ _ _ _ _ _ _ _ HP.out hs1 hel hn).mono ?_; rintro e' w1 ⟨rfl, rfl⟩)
      go_ret
      exact ⟨ret_int HR.out.symm, hb⟩
    | false =>
      have hr' : Er evs e = 5 := by rw [hr]; simp [hen, hpd]
      have HR := Lib.hid hr'
      have HP := Lib.hid hpd
      rw [hen] at hb hs1
      clear hr hr' hpd hen
      go_enter Try.func22, Try.ntmps22
      go_wp2_with (go_at_call 24; refine (ref_pending_is _ _ _ _ _ _ _ _ HP.out hs1 hel hn).mono ?_; rintro e' w1 ⟨rfl, rfl⟩)
      go_ret
      exact ⟨ret_int HR.out.symm, hb⟩
  | false =>
    cases hpd : Pd evs e.th with
    | true =>
      have hr' : Er evs e = 1 := by rw [hr]; simp [hen, hpd]
      have HR := Lib.hid hr'
      have HP := Lib.hid hpd
      rw [hen] at hb hs1
      clear hr hr' hpd hen
      go_enter Try.func22, Try.ntmps22
      go_wp2_with (go_at_call 24; refine (ref_pending_is _ _ _ _ _ _ _ _ HP.out hs1 hel hn).mono ?_; rintro e' w1 ⟨rfl, rfl⟩)
      go_ret
      exact ⟨ret_int HR.out.symm, hb⟩
    | false =>
      have hr' : Er evs e = 0 := by rw [hr]; simp [hen, hpd]
      have HR := Lib.hid hr'
      have HP := Lib.hid hpd
      rw [hen] at hb hs1
      clear hr hr' hpd hen
      go_enter Try.func22, Try.ntmps22
      go_wp2_with (go_at_call 24; refine (ref_pending_is _ _ _ _ _ _ _ _ HP.out hs1 hel hn).mono ?_; rintro e' w1 ⟨rfl, rfl⟩)
      go_ret
      exact ⟨ret_int HR.out.symm, hb⟩

theorem ref_bare (e : Ev) (w : World) :
    Calls Try.prog 23 #[.agg #[.int .i64 e.th, .bool e.ends, .int .i64 e.kind, .int .i64 e.key, .int .i64 e.code, .bool e.ok, .int .i64 e.val]] w fun r w' =>
      r = .returned (.agg #[.int .i64 (bareE e).th, .bool (bareE e).ends, .int .i64 (bareE e).kind, .int .i64 (bareE e).key, .int .i64 (bareE e).code, .bool (bareE e).ok, .int .i64 (bareE e).val]) ∧ Below w.heap.size w w' := by
  cases hen : e.ends with
  | true =>
    have hb : bareE e = ⟨e.th, true, 0, 0, e.code, e.ok, e.val⟩ := by simp [bareE, hen, evE]
    rw [hb]
    clear hb hen
    go_enter Try.func23, Try.ntmps23
    go_wp2
    exact bodyPost_ret (v := .agg #[.int .i64 e.th, .bool true, .int .i64 0, .int .i64 0, .int .i64 e.code, .bool e.ok, .int .i64 e.val]) (by simp [results, Try.results23, go_sem]) rfl ⟨rfl, ((Below.refl _ _).alloc (Nat.le_refl _) _).alloc (by simp) _⟩
  | false =>
    have hb : bareE e = ⟨e.th, false, e.kind, e.key, 0, false, 0⟩ := by simp [bareE, hen, evB]
    rw [hb]
    clear hb hen
    go_enter Try.func23, Try.ntmps23
    go_wp2
    exact bodyPost_ret (v := .agg #[.int .i64 e.th, .bool false, .int .i64 e.kind, .int .i64 e.key, .int .i64 0, .bool false, .int .i64 0]) (by simp [results, Try.results23, go_sem]) rfl ⟨rfl, ((Below.refl _ _).alloc (Nat.le_refl _) _).alloc (by simp) _⟩

set_option maxHeartbeats 400000 in
theorem ref_before (a b : RC) (w : World) :
    Calls Try.prog 48 #[.agg #[.int .i64 a.th, .int .i64 a.began, .int .i64 a.ended, .int .i64 a.kind, .int .i64 a.key, .int .i64 a.code, .bool a.ok, .int .i64 a.val], .agg #[.int .i64 b.th, .int .i64 b.began, .int .i64 b.ended, .int .i64 b.kind, .int .i64 b.key, .int .i64 b.code, .bool b.ok, .int .i64 b.val]] w fun r w' =>
      r = .returned (.bool (spanB a.ended b.began)) ∧ Below w.heap.size w w' := by
  by_cases h : 0 ≤ a.ended
  · have h1 : decide (a.ended < 0) = false := by simp; omega
    have hs : spanB a.ended b.began = decide (a.ended < b.began) := by simp [spanB, h1]
    rw [hs]
    clear hs h1
    go_enter Try.func48, Try.ntmps48
    go_wp2
    go_ret
    exact ⟨rfl, ((Below.refl _ _).alloc (Nat.le_refl _) _).alloc (by simp) _⟩
  · have h1 : decide (a.ended < 0) = true := by simp; omega
    have hs : spanB a.ended b.began = false := by simp [spanB, h1]
    rw [hs]
    clear hs h1
    go_enter Try.func48, Try.ntmps48
    go_wp2
    go_ret
    exact ⟨rfl, ((Below.refl _ _).alloc (Nat.le_refl _) _).alloc (by simp) _⟩

end Go.Proofs.Ytboommppikfgnaa
