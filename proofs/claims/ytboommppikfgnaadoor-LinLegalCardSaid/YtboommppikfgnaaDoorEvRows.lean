/- Rows of cells that are events.
   Conditions: none. -/
import Derived.Test.YtboommppikfgnaaDoorHPlain
import Derived.Test.YtboommppikfgnaaDoorOpen
namespace Go.Proofs.YtboommppikfgnaaDoor
open Go Go.RowKit

theorem row_ev {l : List Value} (h : Rowed [some .i64, none, some .i64, some .i64, some .i64, none, some .i64] l) : ∃ e : Ev, l = e.cells := by
  obtain ⟨_, _, rfl, ⟨a, rfl, _⟩, h1⟩ := h.cons_inv
  obtain ⟨_, _, rfl, ⟨b, rfl⟩, h2⟩ := h1.cons_inv
  obtain ⟨_, _, rfl, ⟨c, rfl, _⟩, h3⟩ := h2.cons_inv
  obtain ⟨_, _, rfl, ⟨d, rfl, _⟩, h4⟩ := h3.cons_inv
  obtain ⟨_, _, rfl, ⟨e, rfl, _⟩, h5⟩ := h4.cons_inv
  obtain ⟨_, _, rfl, ⟨f, rfl⟩, h6⟩ := h5.cons_inv
  obtain ⟨_, _, rfl, ⟨g, rfl, _⟩, h7⟩ := h6.cons_inv
  obtain rfl := h7.nil_inv
  exact ⟨⟨a, b, c, d, e, f, g⟩, rfl⟩
theorem rows_evs : ∀ rows : List (List Value), (∀ r ∈ rows, Rowed [some .i64, none, some .i64, some .i64, some .i64, none, some .i64] r) → ∃ evs : List Ev, evs.length = rows.length ∧ rows.flatten = evs.flatMap Ev.cells
  | [], _ => ⟨[], rfl, rfl⟩
  | r :: rows, h => by
    obtain ⟨e, rfl⟩ := row_ev (h r (List.mem_cons_self ..))
    obtain ⟨evs, h1, h2⟩ := rows_evs rows (fun x hx => h x (List.mem_cons_of_mem _ hx))
    exact ⟨e :: evs, by simp [h1], by simp [h2]⟩
end Go.Proofs.YtboommppikfgnaaDoor
