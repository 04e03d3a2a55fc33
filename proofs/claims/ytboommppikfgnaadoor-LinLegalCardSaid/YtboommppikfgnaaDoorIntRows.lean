/- Rows of one number each are a list of numbers.
   Conditions: none. -/
import Derived.Test.YtboommppikfgnaaDoorOpen
import Derived.Test.YtboommppikfgnaaDoorSMem
namespace Go.Proofs.YtboommppikfgnaaDoor
open Go Go.RowKit

theorem rows_ints : ∀ rows : List (List Value), (∀ r ∈ rows, Rowed [some .i64] r) → ∃ l : List Int, l.length = rows.length ∧ rows.flatten = ints l
  | [], _ => ⟨[], rfl, rfl⟩
  | r :: rows, h => by
    obtain ⟨_, _, rfl, ⟨a, rfl, _⟩, h1⟩ := (h r (List.mem_cons_self ..)).cons_inv
    obtain rfl := h1.nil_inv
    obtain ⟨l, h2, h3⟩ := rows_ints rows (fun x hx => h x (List.mem_cons_of_mem _ hx))
    exact ⟨a :: l, by simp [h2], by simp [h3, ints]⟩
end Go.Proofs.YtboommppikfgnaaDoor
