/- Rows of cells that are operations.
   Conditions: none. -/
import Derived.Test.YtboommppikfgnaaSpPlain
import Derived.Test.YtboommppikfgnaaOpen
namespace Go.Proofs.Ytboommppikfgnaa
open Go Go.RowKit

theorem rows_opns : ∀ rows : List (List Value), (∀ r ∈ rows, Rowed [some .i64, some .i64] r) → ∃ ops : List Opn, ops.length = rows.length ∧ rows.flatten = ops.flatMap Opn.cells
  | [], _ => ⟨[], rfl, rfl⟩
  | r :: rows, h => by
    obtain ⟨a, b, rfl⟩ := (h r (List.mem_cons_self ..)).two
    obtain ⟨ops, h1, h2⟩ := rows_opns rows (fun x hx => h x (List.mem_cons_of_mem _ hx))
    exact ⟨⟨a, b⟩ :: ops, by simp [h1], by simp [h2, Opn.cells]⟩
end Go.Proofs.Ytboommppikfgnaa
