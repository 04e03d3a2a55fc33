/- Plain meaning of scripts: numbers, entries, words, picks.
   Conditions: none. -/
import Derived.Test.YtiihhpmgfmiacaaDoorLead
import Derived.Lib.SplitLaws
import Derived.Lib.ItoaNum
import Derived.Lib.Join
namespace Go.Proofs.YtiihhpmgfmiacaaDoor
open Go Go.RowKit

def isDig (c : UInt8) : Bool := decide (48 ≤ c.toNat) && decide (c.toNat ≤ 57)
def valOf (l : List UInt8) : Nat := l.foldl (fun n c => 10 * n + (c.toNat - 48)) 0
def numL (l : List UInt8) : Option Nat := if l.length = 0 ∨ 5 < l.length then none else if l.all isDig then some (valOf l) else none

structure Pk where
  th : Int
  tm : Int
def Pk.cells (p : Pk) : List Value := [.int .i64 p.th, .int .i64 p.tm]

def entTh (l : List UInt8) : Nat := (numL (Lib.cut l [42]).1).getD 0
def entTm (l : List UInt8) : Nat := if (Lib.cut l [42]).2.2 then (numL (Lib.cut l [42]).2.1).getD 0 else 1
def entOk (l : List UInt8) : Bool := (numL (Lib.cut l [42]).1).isSome && (if (Lib.cut l [42]).2.2 then (numL (Lib.cut l [42]).2.1).isSome else true)
def entPk (l : List UInt8) : Pk := ⟨entTh l, entTm l⟩

/-- the pieces between blanks -/
def words : List UInt8 → List (List UInt8)
  | [] => [[]]
  | c :: l => if c = 32 then [] :: words l else match words l with
    | x :: r => (c :: x) :: r
    | [] => [[c]]
def picksL (ws : List (List UInt8)) : List Pk := (ws.filter fun x => !x.isEmpty && entOk x).map entPk
def badL (ws : List (List UInt8)) : Nat := (ws.filter fun x => !x.isEmpty && !entOk x).length

theorem words_ne (l : List UInt8) : words l ≠ [] := by
  cases l with
  | nil => simp [words]
  | cons c l =>
    simp only [words]
    split
    · simp
    · split <;> simp
theorem words_eq : ∀ l : List UInt8, Lib.splitK [32] 0 (Lib.count l [32]) l = words l
  | [] => by rw [Lib.count_miss (by simp [Lib.index])]; rfl
  | c :: l => by
    have ih := words_eq l
    by_cases h : c = 32
    · subst h
      have hix : Lib.index (32 :: l) [32] = ((0 : Nat) : Int) := by rw [Lib.index]; simp [List.isPrefixOf]
      rw [Lib.count_cons_eq, Nat.add_comm, Lib.splitK, hix]
      simp [words, ih]
    · have hp : ([32] : List UInt8).isPrefixOf (c :: l) = false := by simp [List.isPrefixOf, Ne.symm h]
      have hix : Lib.index (c :: l) [32] = if Lib.index l [32] == -1 then -1 else Lib.index l [32] + 1 := by rw [Lib.index, hp]; simp
      rw [Lib.count_cons_ne c 32 l h]
      simp only [words, if_neg h]
      rw [← ih]
      by_cases hm : Lib.index l [32] = -1
      · rw [Lib.count_miss hm]
        rfl
      · have hge := Lib.index_ge l [32]
        obtain ⟨j, hj⟩ : ∃ j : Nat, Lib.index l [32] = j := ⟨(Lib.index l [32]).toNat, by omega⟩
        have hix' : Lib.index (c :: l) [32] = ((j + 1 : Nat) : Int) := by rw [hix, if_neg (fun e => hm (beq_iff_eq.1 e)), hj]; omega
        rw [Lib.count_hit (by simp) hj, Nat.add_comm 1]
        have h1 : ¬ (((j + 1 : Nat) : Int) == -1) = true := fun e => by have := beq_iff_eq.1 e; omega
        have h2 : ¬ (((j : Nat) : Int) == -1) = true := fun e => by have := beq_iff_eq.1 e; omega
        simp only [Lib.splitK]
        rw [hix', hj, if_neg h1, if_neg h2]
        simp

theorem valOf_snoc (l : List UInt8) (c : UInt8) : valOf (l ++ [c]) = 10 * valOf l + (c.toNat - 48) := by simp [valOf]
theorem valOf_from : ∀ (l : List UInt8) (n k : Nat), n < 10 ^ k → l.all isDig = true → l.foldl (fun n c => 10 * n + (c.toNat - 48)) n < 10 ^ (k + l.length)
  | [], n, k, h, _ => by simpa using h
  | c :: l, n, k, h, ha => by
    rw [List.all_cons, Bool.and_eq_true] at ha
    have h2 : 48 ≤ c.toNat ∧ c.toNat ≤ 57 := by simpa [isDig] using ha.1
    have := valOf_from l (10 * n + (c.toNat - 48)) (k + 1) (by rw [Nat.pow_succ]; omega) ha.2
    rw [List.foldl_cons, List.length_cons, show k + (l.length + 1) = k + 1 + l.length by omega]
    exact this
theorem valOf_lt (l : List UInt8) (h : l.all isDig = true) : valOf l < 10 ^ l.length := by
  have := valOf_from l 0 0 (by simp) h
  simpa [valOf] using this
theorem numL_lt {l : List UInt8} {n : Nat} (h : numL l = some n) : n ≤ 99999 := by
  unfold numL at h
  split at h
  · cases h
  · split at h
    · injection h with h
      have h1 := valOf_lt l (by assumption)
      have h2 : 10 ^ l.length ≤ 10 ^ 5 := Nat.pow_le_pow_right (by omega) (by omega)
      omega
    · cases h

theorem picksL_app (ws vs : List (List UInt8)) : picksL (ws ++ vs) = picksL ws ++ picksL vs := by simp [picksL]
theorem badL_app (ws vs : List (List UInt8)) : badL (ws ++ vs) = badL ws + badL vs := by simp [badL]
theorem picksL_le (ws : List (List UInt8)) : (picksL ws).length ≤ ws.length := by
  unfold picksL; rw [List.length_map]; exact List.length_filter_le _ _
theorem badL_le (ws : List (List UInt8)) : badL ws ≤ ws.length := by
  unfold badL; exact List.length_filter_le _ _
theorem picksL_snoc (ws : List (List UInt8)) (k : Nat) (x : List UInt8) (h : ws[k]? = some x) : picksL (ws.take (k + 1)) = picksL (ws.take k) ++ if !x.isEmpty && entOk x then [entPk x] else [] := by
  rw [List.take_add_one, h, picksL_app]
  congr 1
  simp only [picksL, Option.toList, List.filter_cons, List.filter_nil]
  split <;> rfl
theorem badL_snoc (ws : List (List UInt8)) (k : Nat) (x : List UInt8) (h : ws[k]? = some x) : badL (ws.take (k + 1)) = badL (ws.take k) + if !x.isEmpty && !entOk x then 1 else 0 := by
  rw [List.take_add_one, h, badL_app]
  congr 1
  simp only [badL, Option.toList, List.filter_cons, List.filter_nil]
  split <;> rfl
theorem words_len : ∀ (l x : List UInt8), x ∈ words l → x.length ≤ l.length
  | [], x, h => by simp [words] at h; simp [h]
  | c :: l, x, h => by
    have ih := words_len l
    simp only [words] at h
    split at h
    · rcases List.mem_cons.1 h with rfl | h
      · simp
      · have := ih x h; simp; omega
    · split at h
      · rename_i y r hw
        rcases List.mem_cons.1 h with rfl | h
        · have := ih y (by rw [hw]; simp); simp; omega
        · have := ih x (by rw [hw]; simp [h]); simp; omega
      · simp at h; simp [h]
theorem words_many : ∀ l : List UInt8, (words l).length ≤ l.length + 1
  | [] => by simp [words]
  | c :: l => by
    have ih := words_many l
    simp only [words]
    split
    · simp; omega
    · split
      · rename_i y r hw; rw [hw] at ih; simp at ih ⊢; omega
      · simp
theorem Pk.cells_len (p : Pk) : p.cells.length = 2 := rfl
theorem pflat_at : ∀ (l : List Pk) (k i : Nat) (x : Pk), l[k]? = some x → i < 2 → (l.flatMap Pk.cells)[k * 2 + i]? = x.cells[i]?
  | [], k, i, x, h, _ => by simp at h
  | a :: l, 0, i, x, h, hi => by
    have : a = x := by simpa using h
    subst this
    rw [List.flatMap_cons, List.getElem?_append_left (by rw [Pk.cells_len]; omega)]
    simp
  | a :: l, k + 1, i, x, h, hi => by
    rw [List.flatMap_cons, List.getElem?_append_right (by rw [Pk.cells_len]; omega), Pk.cells_len, show (k + 1) * 2 + i - 2 = k * 2 + i by omega]
    exact pflat_at l k i x (by simpa using h) hi
theorem pk_cells {w : World} {B n : Nat} {A : Option Addr} {ps : List Pk} (h : Sl w B 2 A n (ps.flatMap Pk.cells)) {k : Nat} {p : Pk} (hk : k < n) (hp : ps[k]? = some p) :
    w.cell? ⟨ablk A, aoff A + k * 2, none⟩ = some (.int .i64 p.th) ∧ w.cell? ⟨ablk A, aoff A + k * 2 + 1, none⟩ = some (.int .i64 p.tm) := by
  have key : ∀ i, i < 2 → w.cell? ⟨ablk A, aoff A + k * 2 + i, none⟩ = p.cells[i]? := fun i hi => by
    rw [h.at_ hk hi, pflat_at ps k i p hp hi]
  exact ⟨key 0 (by omega), key 1 (by omega)⟩
theorem Pk.cells_one (p : Pk) : ∀ u ∈ p.cells, u.oneCell' = true := by simp [Pk.cells, Value.oneCell']
end Go.Proofs.YtiihhpmgfmiacaaDoor
