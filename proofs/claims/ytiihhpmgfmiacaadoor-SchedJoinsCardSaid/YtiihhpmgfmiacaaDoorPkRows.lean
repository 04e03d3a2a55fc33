/- Rows of cells that are picks.
   Conditions: none. -/
import Derived.Test.YtiihhpmgfmiacaaDoorSchPlain
import Derived.Test.YtiihhpmgfmiacaaDoorOpen
namespace Go.Proofs.YtiihhpmgfmiacaaDoor
open Go Go.RowKit

theorem rows_pks : ∀ rows : List (List Value), (∀ r ∈ rows, Rowed [some .i64, some .i64] r) → ∃ ps : List Pk, ps.length = rows.length ∧ rows.flatten = ps.flatMap Pk.cells
  | [], _ => ⟨[], rfl, rfl⟩
  | r :: rows, h => by
    obtain ⟨a, b, rfl⟩ := (h r (List.mem_cons_self ..)).two
    obtain ⟨ps, h1, h2⟩ := rows_pks rows (fun x hx => h x (List.mem_cons_of_mem _ hx))
    exact ⟨⟨a, b⟩ :: ps, by simp [h1], by simp [h2, Pk.cells]⟩
end Go.Proofs.YtiihhpmgfmiacaaDoor
