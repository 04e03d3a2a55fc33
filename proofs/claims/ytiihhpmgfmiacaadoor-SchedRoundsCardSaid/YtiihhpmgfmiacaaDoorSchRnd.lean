/- Contract of sched's Rounds.
   Conditions: none. -/
import Derived.Test.YtiihhpmgfmiacaaDoorSchPS
namespace Go.Proofs.YtiihhpmgfmiacaaDoor
open Go Go.RowKit

/-- the first k picks of rounds of t threads -/
def rndL (t : Nat) (tm : Int) (k : Nat) : List Pk := (List.range k).map fun i => ⟨((i % t : Nat) : Int), tm⟩
theorem rndL_len (t : Nat) (tm : Int) (k : Nat) : (rndL t tm k).length = k := by simp [rndL]
theorem rndL_snoc (t : Nat) (tm : Int) (k : Nat) : rndL t tm (k + 1) = rndL t tm k ++ [⟨((k % t : Nat) : Int), tm⟩] := by simp [rndL, List.range_succ]
def lenOf : Value → Nat
  | .slice _ n _ => n
  | _ => 0

set_option maxRecDepth 100000 in
set_option maxHeartbeats 1600000 in
theorem sch_rounds (t tm many : Int) (w : World) (ht : 1 ≤ t) (htm : 1 ≤ tm) (hm : 1 ≤ many) (htb : t ≤ 9223372036854775807) (hmb : many ≤ 9223372036854775807) :
    Calls Tryd.prog 22 #[.int .i64 t, .int .i64 tm, .int .i64 many] w fun e w' => ∃ v, e = .returned v ∧ w'.ownsRow w.heap.size 33 2 v (min 60000 (t.toNat * many.toNat)) ((rndL t.toNat tm (min 60000 (t.toNat * many.toNat))).flatMap Pk.cells) ∧ Below w.heap.size w w' := by
  obtain ⟨iP, hiP, zP, sP, bP⟩ := info_parts (e := 33) (P := Tryd.prog) (z := .agg #[.int .i64 0, .int .i64 0]) (size := 2) (bytes := 16) (by kernel_rfl)
  obtain ⟨T, hT⟩ : ∃ T : Nat, t = T := ⟨t.toNat, by omega⟩
  obtain ⟨M, hM⟩ : ∃ M : Nat, many = M := ⟨many.toNat, by omega⟩
  subst hT hM
  simp only [Int.toNat_natCast]
  have d1 : decide ((T : Int) < 1) = false := by simp; omega
  have d2 : decide (tm < 1) = false := by simp; omega
  go_enter Tryd.func22, Tryd.ntmps22
  go_wp2_with fail
  go_loopw [2, 7] (fun mv out wr => ∃ (r L : Nat), r ≤ M ∧ mv = .int .i64 ((M : Int) - (r : Int)) ∧ L = min 60000 (T * r) ∧ wr.ownsRow w.heap.size 33 2 out L ((rndL T tm L).flatMap Pk.cells) ∧ Below w.heap.size w wr) (fun _ out _ => 60000 - lenOf out)
  case atStart => exact ⟨0, 0, by omega, by simp, by simp, World.ownsRow_nil _ _ _ _, Below.refl _ _⟩
  case round =>
    obtain ⟨r, L, hr, rfl, hL, hown, hbr⟩ := hrel
    obtain ⟨A, c, rfl, -, -, -⟩ := own_form hown
    have hbs := hbr.size
    by_cases hgo : r < M ∧ L < 60000
    · obtain ⟨hrM, hL6⟩ := hgo
      have hLr : L = T * r := by omega
      have d3 : decide (0 < (M : Int) - (r : Int)) = true := by simp; omega
      have hr0 : (0 : Int) < (M : Int) - (r : Int) := by omega
      have hL6' : (L : Int) < 60000 := by omega
      have HLr := Lib.hid hLr
      clear hL hLr
      go_wp2_with fail
      go_loopw [7, 8] (fun out u wr => ∃ (j L' : Nat), j ≤ T ∧ u = .int .i64 j ∧ L' = min 60000 (T * r + j) ∧ wr.ownsRow w.heap.size 33 2 out L' ((rndL T tm L').flatMap Pk.cells) ∧ Below w.heap.size w wr) (fun _ u _ => T - (intOf u).toNat)
      case atStart => exact ⟨0, L, by omega, rfl, by have := HLr.out; omega, hown, hbr⟩
      case round =>
        obtain ⟨j, L', hj, rfl, hL', hown', hbr'⟩ := hrel
        obtain ⟨A', c', rfl, -, -, -⟩ := own_form hown'
        have hbs' := hbr'.size
        by_cases hgo' : j < T ∧ L' < 60000
        · obtain ⟨hjT, hL6'⟩ := hgo'
          have hLr' : L' = T * r + j := by omega
          have hmod : L' % T = j := by rw [hLr', Nat.mul_add_mod]; exact Nat.mod_eq_of_lt hjT
          have hsn := rndL_snoc T tm L'
          rw [hmod] at hsn
          have HSN := Lib.hid hsn
          have HLr' := Lib.hid hLr'
          have hL61 : (L' : Int) < 60000 := by omega
          have hown4 := hown'.alloc (.cells #[.int .i64 j, .int .i64 tm] 33)
          clear hsn hmod hLr' hL'
          go_wp2_with (at_builtin; refine wpList_append_lies _ rfl _ _ _ rfl w.heap.size 33 iP _ 2 16 Tryd.underlying23 hiP zP sP bP rfl (by omega) (.slice A' L' c') L' ((rndL T tm L').flatMap Pk.cells) rfl hown4 ⟨wr.heap.size, 0, none⟩ 1 1 (Pk.cells ⟨j, tm⟩) rfl rfl (World.news_of_block (heap_alloc_new wr _)) (Pk.cells_one _) (by omega) (by unfold maxLen; omega) (by omega) (by simp; omega) (wr.heap.size + 1) (by simp) ?_; intro g cap w9 hown9 hgrow hat hlt9)
          have hgrow' : (wr.alloc (.cells #[.int .i64 j, .int .i64 tm] 33)).grownBy w9 (Value.ownBlock (.slice A' L' c')) := hgrow
          clear hgrow hat
          go_roundw
          case rel =>
            refine ⟨j + 1, L' + 1, by omega, by go_num, by have := HLr'.out; omega, ?_, ?_⟩
            · rw [HSN.out]; simpa using hown9
            · exact (hbr'.alloc (by omega) _).grown hgrow' (by simp; omega) (fun g0 h0 => (own_at hown' g0 h0).1)
          case measure => simp [intOf]; omega
        · have hLM' : L' = min 60000 (T * (r + 1)) := by
            rw [Nat.mul_add, Nat.mul_one]
            by_cases h1 : j < T
            · have h2 : ¬ L' < 60000 := fun h => hgo' ⟨h1, h⟩
              omega
            · obtain rfl : j = T := by omega
              exact hL'
          have hge : L' < 60000 → L < L' := fun h => by
            have h1 : ¬ j < T := fun h1 => hgo' ⟨h1, h⟩
            have := HLr.out
            omega
          have HLM := Lib.hid hLM'
          have HGE := Lib.hid hge
          clear hL' hLM' hge
          by_cases h1 : j < T
          · have h2 : ¬ L' < 60000 := fun h => hgo' ⟨h1, h⟩
            have h6 : ¬ ((L' : Int) < 60000) := by omega
            have hlast : 60000 - L' < 60000 - L := by omega
            go_wp2_with fail
            exact ⟨⟨r + 1, L', by omega, by congr 1; omega, HLM.out, hown', hbr'⟩, hlast⟩
          · have hlast : 60000 - L' < 60000 - L := by
              have := HGE.out
              omega
            go_wp2_with fail
            exact ⟨⟨r + 1, L', by omega, by congr 1; omega, HLM.out, hown', hbr'⟩, hlast⟩
    · have hLM : L = min 60000 (T * M) := by
        by_cases h1 : r < M
        · have h2 : ¬ L < 60000 := fun h => hgo ⟨h1, h⟩
          have h3 : T * r ≤ T * M := Nat.mul_le_mul_left T hr
          omega
        · obtain rfl : r = M := by omega
          exact hL
      by_cases h1 : r < M
      · have h2 : ¬ L < 60000 := fun h => hgo ⟨h1, h⟩
        have hr0 : (0 : Int) < (M : Int) - (r : Int) := by omega
        have h6 : ¬ ((L : Int) < 60000) := by omega
        have HLM := Lib.hid hLM
        clear hLM hL
        go_wp2_with fail
        go_ret
        exact ⟨_, rfl, by rw [← HLM.out]; exact hown, hbr⟩
      · have hr0 : ¬ (0 : Int) < (M : Int) - (r : Int) := by omega
        have HLM := Lib.hid hLM
        clear hLM hL
        go_wp2_with fail
        go_ret
        exact ⟨_, rfl, by rw [← HLM.out]; exact hown, hbr⟩

theorem sch_rounds_no (t tm many : Int) (w : World) (h : t < 1 ∨ tm < 1 ∨ many < 1) :
    Calls Tryd.prog 22 #[.int .i64 t, .int .i64 tm, .int .i64 many] w fun e w' => e = .returned (.slice none 0 0) ∧ w = w' := by
  by_cases h1 : t < 1
  · have d1 : decide (t < 1) = true := by simpa using h1
    go_enter Tryd.func22, Tryd.ntmps22
    go_wp2_with fail
    go_ret
    exact ⟨rfl, rfl⟩
  · have d1 : decide (t < 1) = false := by simpa using h1
    by_cases h2 : tm < 1
    · have d2 : decide (tm < 1) = true := by simpa using h2
      go_enter Tryd.func22, Tryd.ntmps22
      go_wp2_with fail
      go_ret
      exact ⟨rfl, rfl⟩
    · have d2 : decide (tm < 1) = false := by simpa using h2
      have h3 : ¬ 0 < many := by omega
      go_enter Tryd.func22, Tryd.ntmps22
      go_wp2_with fail
      go_loopw [2, 7] (fun mv out wr => mv = .int .i64 many ∧ out = .slice none 0 0 ∧ w = wr) (fun _ _ _ => 0)
      case atStart => exact ⟨rfl, rfl, rfl⟩
      case round =>
        obtain ⟨rfl, rfl, rfl⟩ := hrel
        go_wp2_with fail
        go_ret
        exact ⟨rfl, rfl⟩
end Go.Proofs.YtiihhpmgfmiacaaDoor
