/- Contracts of the document's answer for layer 7: May, In, Many, Line, Pile, Items, Res; and of layer 1's Ints.
   Conditions: at most 1000 operations. -/
import Derived.Test.YtboommppikfgnaaDoorSPlay
namespace Go.Proofs.YtboommppikfgnaaDoor
open Go Go.RowKit

theorem ret_i {a b : Int} (h : a = b) : Ending.returned (.int .i64 a) = .returned (.int .i64 b) := by rw [h]
theorem ret_b {a b : Bool} (h : a = b) : Ending.returned (.bool a) = .returned (.bool b) := by rw [h]

/-- 'x[:k]' of a slice -/
theorem run_upto {P : Program} {t e : TypeId} {sz : Nat} (ht : P.underlying t = some (.slice e)) (he : (P.info? e).map (·.size) = some sz) (A : Option Addr) (m c k : Nat) (i : Int) (hi : i = (k : Int)) (hk : k ≤ c) (W : World) :
    (Instr.sliceAt t (.slice A m c) none (some (.int .i64 i)) none).run P W = .ok (.slice A k c) W := by
  subst hi
  obtain ⟨inf, hinf, hs⟩ := Option.map_eq_some_iff.1 he
  simp [Instr.sliceAt, Instr.slice, run_underlying ht, Instr.sliceBounds, Instr.sliceBound, asIntOf, sizeOf, typeInfo, hinf, hk]
  intro _
  cases A <;> simp [Addr.add]
theorem Sl.upto {w : World} {B sz n : Nat} {A : Option Addr} {xs : List Value} (h : Sl w B sz A n xs) {k : Nat} (hk : k ≤ n) : Sl w B sz A k (xs.take (k * sz)) := by
  have hm : k * sz ≤ n * sz := Nat.mul_le_mul_right _ hk
  refine ⟨by rw [List.length_take, h.len]; omega, fun h0 => h.adr (by omega), fun h0 => h.blt (by omega), fun j hj => ?_⟩
  rw [h.cell j (by omega), List.getElem?_take, if_pos hj]
theorem flat_take {α : Type} (f : α → List Value) (sz : Nat) (hf : ∀ x, (f x).length = sz) : ∀ (l : List α) (k : Nat), (l.flatMap f).take (k * sz) = (l.take k).flatMap f
  | [], k => by simp
  | x :: l, 0 => by simp
  | x :: l, k + 1 => by
    rw [List.flatMap_cons, List.take_succ_cons, List.flatMap_cons, ← flat_take f sz hf l k, List.take_append, hf, List.take_of_length_le (by rw [hf, Nat.add_mul]; omega)]
    congr 2
    rw [Nat.add_mul]; omega

set_option maxRecDepth 100000 in
set_option maxHeartbeats 1600000 in
theorem ref_May (sh : Int) (o : Opn) (w : World) : Calls Tryd.prog 16 #[.int .i64 sh, .agg #[.int .i64 o.kind, .int .i64 o.key]] w fun e w' => e = .returned (.bool (may sh o)) ∧ Below w.heap.size w w' := by
  obtain ⟨kind, key⟩ := o
  have hb : Below w.heap.size w (w.alloc (.cells #[.int .i64 kind, .int .i64 key] 43)) := (Below.refl _ _).alloc (Nat.le_refl _) _
  have HB := Lib.hid hb
  clear hb
  have H : Hid (may sh ⟨kind, key⟩ = decide (mayP sh kind key)) := rfl
  by_cases h0 : key < 0
  · have hm := Lib.hid (show may sh ⟨kind, key⟩ = false by rw [H.out, decide_eq_false]; unfold mayP; omega)
    go_enter Tryd.func16, Tryd.ntmps16
    go_wp2
    go_ret
    exact ⟨ret_b hm.out.symm, HB.out⟩
  · by_cases h9 : 999 < key
    · have hm := Lib.hid (show may sh ⟨kind, key⟩ = false by rw [H.out, decide_eq_false]; unfold mayP; omega)
      go_enter Tryd.func16, Tryd.ntmps16
      go_wp2
      go_ret
      exact ⟨ret_b hm.out.symm, HB.out⟩
    · have d0 : decide (key < 0) = false := by simpa using h0
      have d9 : decide (999 < key) = false := by simpa using h9
      by_cases h12 : sh = 1 ∨ sh = 2
      · have hm := Lib.hid (show may sh ⟨kind, key⟩ = (decide (1 ≤ kind) && decide (kind ≤ 3)) by rw [H.out, Bool.eq_iff_iff, Bool.and_eq_true, decide_eq_true_eq, decide_eq_true_eq, decide_eq_true_eq]; unfold mayP; omega)
        clear h0 h9
        rcases h12 with rfl | rfl
        all_goals
          by_cases h1 : 1 ≤ kind
          · go_enter Tryd.func16, Tryd.ntmps16
            go_wp2
            go_ret
            exact ⟨ret_b (by rw [hm.out]; simp [h1]), HB.out⟩
          · have d1 : decide (1 ≤ kind) = false := by simpa using h1
            have hm2 := Lib.hid (show false = (decide (1 ≤ kind) && decide (kind ≤ 3)) by rw [d1]; rfl)
            clear h1
            go_enter Tryd.func16, Tryd.ntmps16
            go_wp2
            go_ret
            exact ⟨ret_b (by rw [hm.out]; exact hm2.out), HB.out⟩
      · have e1 : (sh == 1) = false := by simp; omega
        have e2 : (sh == 2) = false := by simp; omega
        by_cases h34 : sh = 3 ∨ sh = 4
        · have hm := Lib.hid (show may sh ⟨kind, key⟩ = ((kind == 4) || ((kind == 5) && (key == 0))) by rw [H.out, Bool.eq_iff_iff, decide_eq_true_eq, Bool.or_eq_true, Bool.and_eq_true, beq_iff_eq, beq_iff_eq, beq_iff_eq]; unfold mayP; omega)
          clear h0 h9 h12 e1 e2
          rcases h34 with rfl | rfl
          all_goals
            by_cases h4 : kind = 4
            · subst h4
              go_enter Tryd.func16, Tryd.ntmps16
              go_wp2
              go_ret
              exact ⟨ret_b (by rw [hm.out]; rfl), HB.out⟩
            · have e4 : (kind == 4) = false := by simpa using h4
              by_cases h5 : kind = 5
              · subst h5
                go_enter Tryd.func16, Tryd.ntmps16
                go_wp2
                go_ret
                exact ⟨ret_b (by rw [hm.out]; simp), HB.out⟩
              · have e5 : (kind == 5) = false := by simpa using h5
                go_enter Tryd.func16, Tryd.ntmps16
                go_wp2
                go_ret
                exact ⟨ret_b (by rw [hm.out]; simp [e4, e5]), HB.out⟩
        · have e3 : (sh == 3) = false := by simp; omega
          have e4 : (sh == 4) = false := by simp; omega
          have hm := Lib.hid (show may sh ⟨kind, key⟩ = false by rw [H.out, decide_eq_false]; unfold mayP; omega)
          clear h0 h9 h12 h34
          go_enter Tryd.func16, Tryd.ntmps16
          go_wp2
          go_ret
          exact ⟨ret_b hm.out.symm, HB.out⟩

section
variable {A : Option Addr} {n c B : Nat} {ops : List Opn} {w : World}
set_option maxRecDepth 100000 in
set_option maxHeartbeats 1600000 in
theorem ref_In (key : Int) (hs : Sl w B 2 A n (ops.flatMap Opn.cells)) (hel : ops.length = n) (hn : n ≤ 1000) :
    Calls Tryd.prog 33 #[.slice A n c, .int .i64 key] w fun e w' => e = .returned (.bool (inS ops key)) ∧ w = w' := by
  have HL := Lib.hid hel
  have h0 := Lib.hid (show inS ops key = inS (ops.take n) key by rw [List.take_of_length_le (by omega)])
  clear hel
  go_enter Tryd.func33, Tryd.ntmps33
  go_wp2
  go_loop [5] (fun i => ∃ j : Nat, j ≤ n ∧ i = .int .i64 ((j : Int) - 1) ∧ Hid (inS ops key = inS (ops.take j) key)) (fun i => (intOf i + 1).toNat)
  case atStart => exact ⟨n, Nat.le_refl _, rfl, h0⟩
  case round =>
    obtain ⟨j, hj, rfl, hin⟩ := hrel
    rcases j with _ | k
    · go_wp2
      go_ret
      exact ⟨ret_b (by rw [hin.out]; rfl), rfl⟩
    · have e : ((k + 1 : Nat) : Int) - 1 = (k : Int) := by omega
      rw [e]
      have hk : k < n := by omega
      obtain ⟨o, ho⟩ : ∃ o, ops[k]? = some o := ⟨_, List.getElem?_eq_getElem (by rw [HL.out]; exact hk)⟩
      have hidx := hs.idx (P := Tryd.prog) (c := c) Tryd.underlying41 opSz hk
      obtain ⟨f0, f1⟩ := op_cells hs hk ho
      have hst := Lib.hid (show inS (ops.take (k + 1)) key = if o.key = key ∧ o.kind = 1 then true else if o.key = key ∧ o.kind = 2 then false else inS (ops.take k) key by
        rw [List.take_add_one, ho]; exact inS_snoc _ _ _)
      have hg0 : (0 : Int) ≤ (k : Int) := by omega
      clear ho e
      obtain ⟨okd, oky⟩ := o
      simp only at f0 f1 hst
      by_cases hkey : oky = key
      · subst hkey
        by_cases h1 : okd = 1
        · subst h1
          go_wp2
          go_ret
          exact ⟨ret_b (by rw [hin.out, hst.out]; simp), rfl⟩
        · have e1 : (okd == 1) = false := by simpa using h1
          by_cases h2 : okd = 2
          · subst h2
            go_wp2
            go_ret
            exact ⟨ret_b (by rw [hin.out, hst.out]; simp), rfl⟩
          · have e2 : (okd == 2) = false := by simpa using h2
            have hin' := Lib.hid (show inS ops oky = inS (ops.take k) oky by rw [hin.out, hst.out, if_neg (by simp [h1]), if_neg (by simp [h2])])
            clear h1 h2
            go_wp2
            go_round
            case rel => exact ⟨k, by omega, rfl, hin'⟩
            case measure => simp [intOf] <;> omega
      · have e1 : (oky == key) = false := by simpa using hkey
        have hin' := Lib.hid (show inS ops key = inS (ops.take k) key by rw [hin.out, hst.out, if_neg (by simp [hkey]), if_neg (by simp [hkey])])
        clear hkey
        go_wp2
        go_round
        case rel => exact ⟨k, by omega, rfl, hin'⟩
        case measure => simp [intOf] <;> omega

theorem manyS_le' (l : List Opn) : manyS l ≤ l.length := by
  have h1 := manyS_le l
  have h2 : (putsS l).length ≤ l.length := by unfold putsS; rw [List.length_map]; exact List.length_filter_le _ _
  omega
set_option maxRecDepth 100000 in
set_option maxHeartbeats 1600000 in
theorem ref_Many (hs : Sl w B 2 A n (ops.flatMap Opn.cells)) (hel : ops.length = n) (hn : n ≤ 1000) :
    Calls Tryd.prog 55 #[.slice A n c] w fun e w' => e = .returned (.int .i64 (manyS ops)) ∧ w = w' := by
  have HL := Lib.hid hel
  clear hel
  go_enter Tryd.func55, Tryd.ntmps55
  go_wp2
  go_loop [3, 4] (fun m i => ∃ k M : Nat, k ≤ n ∧ i = .int .i64 k ∧ m = .int .i64 M ∧ M ≤ k ∧ Hid (M = manyS (ops.take k))) (fun _ i => n - (intOf i).toNat)
  case atStart => exact ⟨0, 0, Nat.zero_le _, rfl, rfl, Nat.le_refl _, rfl⟩
  case round =>
    obtain ⟨k, M, hk, rfl, rfl, hM, hmm⟩ := hrel
    by_cases hlt : k < n
    · have dk : decide ((k : Int) < (n : Int)) = true := by simp; omega
      obtain ⟨o, ho⟩ : ∃ o, ops[k]? = some o := ⟨_, List.getElem?_eq_getElem (by rw [HL.out]; exact hlt)⟩
      have hidx := hs.idx (P := Tryd.prog) (c := c) Tryd.underlying41 opSz hlt
      obtain ⟨f0, f1⟩ := op_cells hs hlt ho
      have hst := Lib.hid (show manyS (ops.take (k + 1)) = if o.kind = 4 then manyS (ops.take k) + 1 else manyS (ops.take k) - 1 by
        rw [List.take_add_one, ho]; exact manyS_snoc _ _)
      clear ho
      obtain ⟨okd, oky⟩ := o
      simp only at f0 f1 hst
      by_cases h4 : okd = 4
      · subst h4
        have hm' := Lib.hid (show M + 1 = manyS (ops.take (k + 1)) by rw [hst.out, if_pos rfl, hmm.out])
        go_wp2
        go_round
        case rel => exact ⟨k + 1, M + 1, by omega, by go_num, by go_num, by omega, hm'⟩
        case measure => simp [intOf] <;> omega
      · have e4 : (okd == 4) = false := by simpa using h4
        have hm' := Lib.hid (show M - 1 = manyS (ops.take (k + 1)) by rw [hst.out, if_neg h4, hmm.out])
        clear h4
        rcases M with _ | M
        · go_wp2
          go_round
          case rel => exact ⟨k + 1, 0, by omega, by go_num, rfl, by omega, hm'⟩
          case measure => simp [intOf] <;> omega
        · have hp : (0 : Int) < ((M + 1 : Nat) : Int) := by omega
          go_wp2
          go_round
          case rel => exact ⟨k + 1, M, by omega, by go_num, by first | rfl | (congr 1; omega), by omega, hm'⟩
          case measure => simp [intOf] <;> omega
    · have dk : decide ((k : Int) < (n : Int)) = false := by simp; omega
      have hkn : k = n := by omega
      subst hkn
      go_wp2
      go_ret
      exact ⟨ret_i (by rw [hmm.out, List.take_of_length_le (by rw [HL.out]; exact Nat.le_refl _)]), rfl⟩
end
end Go.Proofs.YtboommppikfgnaaDoor
