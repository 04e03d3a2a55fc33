/- The law SchedRounds, walked.
   Conditions: the cell of internal/bytealg.MaxLen holds an int; the table of powers of ten lies as laid. -/
import Derived.Test.YtiihhpmgfmiacaaDoorSchAwake
import Derived.Test.YtiihhpmgfmiacaaDoorSchRnd
namespace Go.Proofs.YtiihhpmgfmiacaaDoor
open Go Go.RowKit

theorem rndL_at (t : Nat) (tm : Int) (n k : Nat) (h : k < n) : (rndL t tm n)[k]? = some ⟨((k % t : Nat) : Int), tm⟩ := by
  simp [rndL, h]

set_option maxRecDepth 100000 in
set_option maxHeartbeats 1600000 in
theorem law_SchedRounds (t tm many : Int) (m : Int) (w : World) (htb : t ≤ 9223372036854775807) (hmb : many ≤ 9223372036854775807) (hm : w.cell? ⟨0, 0, none⟩ = some (.int .i64 m)) (htab : ∀ w', Below w.heap.size w w' → Lib.TabIs Tryd.prog w' "internal/strconv.uint64pow10" .u64 Lib.pow10Tab) :
    Calls Tryd.prog 9 #[.int .i64 t, .int .i64 tm, .int .i64 many] w fun e w' => e = .returned (.bool true) ∧ Below w.heap.size w w' := by
  have HAW := Lib.hid (law_awake m w hm htab)
  clear hm htab
  by_cases hno : t < 1 ∨ tm < 1 ∨ many < 1
  · go_enter Tryd.func9, Tryd.ntmps9
    go_wp2_with fail
    refine HAW.out.mono ?_
    rintro e w1 ⟨rfl, hb1⟩
    go_wp2_with fail
    refine (sch_rounds_no t tm many w1 hno).mono ?_
    rintro e w2 ⟨rfl, rfl⟩
    have hr : (decide (t < 1) || decide (tm < 1) || decide (many < 1)) = true := by simpa [or_assoc] using hno
    by_cases h1 : t < 1
    · have d1 : decide (t < 1) = true := by simpa using h1
      go_wp2_with fail
      go_ret
      exact ⟨rfl, hb1⟩
    · have d1 : decide (t < 1) = false := by simpa using h1
      by_cases h2 : tm < 1
      · have d2 : decide (tm < 1) = true := by simpa using h2
        go_wp2_with fail
        go_ret
        exact ⟨rfl, hb1⟩
      · have d2 : decide (tm < 1) = false := by simpa using h2
        have d3 : decide (many < 1) = true := by simp; omega
        go_wp2_with fail
        go_ret
        exact ⟨rfl, hb1⟩
  · have ht : 1 ≤ t := by omega
    have htm : 1 ≤ tm := by omega
    have hmn : 1 ≤ many := by omega
    have d1 : decide (t < 1) = false := by simp; omega
    have d2 : decide (tm < 1) = false := by simp; omega
    have d3 : decide (many < 1) = false := by simp; omega
    obtain ⟨T, hT⟩ : ∃ T : Nat, t = T := ⟨t.toNat, by omega⟩
    obtain ⟨M, hM⟩ : ∃ M : Nat, many = M := ⟨many.toNat, by omega⟩
    subst hT hM
    go_enter Tryd.func9, Tryd.ntmps9
    go_wp2_with fail
    refine HAW.out.mono ?_
    rintro e w1 ⟨rfl, hb1⟩
    go_wp2_with fail
    refine (sch_rounds T tm M w1 ht htm hmn htb hmb).mono ?_
    rintro e w2 ⟨v, rfl, hown, hb2⟩
    simp only [Int.toNat_natCast] at hown
    have hb02 := hb1.trans (hb2.mono hb1.size)
    obtain ⟨n, hn⟩ : ∃ n, min 60000 (T * M) = n := ⟨_, rfl⟩
    rw [hn] at hown
    obtain ⟨A, c, rfl, -, -, -⟩ := own_form hown
    have hs := Sl.of_own hown
    have hn6 : n ≤ 60000 := by omega
    clear hown
    have hrest : ∀ (u : World → Prop), u w2 → True := fun _ _ => trivial
    have hn1 : 60000 ≤ T ∨ 60000 ≤ M → n = 60000 := by
      intro h
      have h1 : 1 ≤ T := by omega
      have h2 : 1 ≤ M := by omega
      have : 60000 ≤ T * M := by
        rcases h with h | h
        · calc 60000 ≤ T := h
            _ = T * 1 := by omega
            _ ≤ T * M := Nat.mul_le_mul_left T h2
        · calc 60000 ≤ M := h
            _ = 1 * M := by omega
            _ ≤ T * M := Nat.mul_le_mul_right M h1
      omega
    have hsmall : T < 60000 → M < 60000 → ((T : Int) * (M : Int)) ≤ 3600000000 ∧ 0 ≤ (T : Int) * (M : Int) ∧ min (60000 : Int) ((T : Int) * (M : Int)) = (n : Int) := by
      intro h1 h2
      have h3 : T * M ≤ 60000 * 60000 := Nat.mul_le_mul (by omega) (by omega)
      rw [← Int.natCast_mul]
      omega
    have HN := Lib.hid hn
    have HN1 := Lib.hid hn1
    have HSM := Lib.hid hsmall
    clear hn hn1 hsmall hrest
    rcases (show (T < 60000 ∧ M < 60000) ∨ ((T < 60000 ∧ ¬ M < 60000) ∨ ¬ T < 60000) by omega) with ⟨h1, h2⟩ | ⟨h1, h2⟩ | h1
    case' inl =>
      have d4 : decide ((T : Int) < 60000) = true := by simp; omega
      have d5 : decide ((M : Int) < 60000) = true := by simp; omega
      obtain ⟨q1, q2, q3⟩ := HSM.out h1 h2
      have Q3 := Lib.hid q3
      clear q3
      go_upto_region 8 with (fail)
      go_upto_region 9 with (fail)
      rw [Q3.out]
      clear q1 q2 d4 d5 h2
    case' inr.inl =>
      have d4 : decide ((T : Int) < 60000) = true := by simp; omega
      have d5 : decide ((M : Int) < 60000) = false := by simp; omega
      have hn60 := HN1.out (.inr (by omega))
      have HN60 := Lib.hid hn60
      clear hn60
      go_upto_region 9 with (fail)
      rw [show (60000 : Int) = (n : Int) by have := HN60.out; omega]
      clear d4 d5 h2
    case' inr.inr =>
      have d4 : decide ((T : Int) < 60000) = false := by simp; omega
      have hn60 := HN1.out (.inl (by omega))
      have HN60 := Lib.hid hn60
      clear hn60
      go_upto_region 9 with (fail)
      rw [show (60000 : Int) = (n : Int) by have := HN60.out; omega]
      clear d4
    all_goals
      go_wp2_with fail
      go_loopw [47] (fun i wr => ∃ k : Nat, k ≤ n ∧ i = .int .i64 k ∧ Below w2.heap.size w2 wr) (fun i _ => n - (intOf i).toNat)
      case atStart => exact ⟨0, by omega, rfl, Below.refl _ _⟩
      case round =>
        obtain ⟨k, hk, rfl, hbr⟩ := hrel
        by_cases hlt : k < n
        · have hp := rndL_at T tm n k hlt
          obtain ⟨R, hR⟩ : ∃ R : Int, ((k % T : Nat) : Int) = R := ⟨_, rfl⟩
          rw [hR] at hp
          have hs1 := hs.step (Nat.le_refl _) hbr
          have hidx := hs1.idx (P := Tryd.prog) (c := c) Tryd.underlying23 pkSz hlt
          obtain ⟨f0, f1⟩ := pk_cells hs1 hlt hp
          have hbs := hbr.size
          have HR := Lib.hid hR
          clear hp hR
          go_upto_region 14 with (fail)
          have hb3 : Below w2.heap.size w2 (wr.alloc (.cells #[.int .i64 R, .int .i64 tm] 33)) := hbr.alloc (by omega) _
          have hpb := Blk.new wr 33 #[.int .i64 R, .int .i64 tm]
          clear hs1 hidx f0 f1
          generalize (wr.alloc (.cells #[.int .i64 R, .int .i64 tm] 33)) = w3 at *
          have hc3 := hpb.cells
          have hT0 : ((T : Int) == 0) = false := beq_eq_false_iff_ne.2 (by omega)
          have hrm : (k : Int).tmod (T : Int) = R := HR.out
          have hT1 : (T : Int) ≠ 0 := by omega
          go_quiet (fail)
          have hb4 : Below w2.heap.size w2 (w3.drewN nq) := ⟨hb3.os, hb3.tape, hb3.output, hb3.size, hb3.block⟩
          go_wp2_with fail
          go_roundw
          case rel => exact ⟨k + 1, by omega, by go_num, hb4⟩
          case measure => simp [intOf]; omega
        · obtain rfl : k = n := by omega
          go_wp2_with fail
          go_ret
          exact ⟨rfl, hb02.trans (hbr.mono hb02.size)⟩
end Go.Proofs.YtiihhpmgfmiacaaDoor
