/- A frame by a set of blocks that are kept; a meaning (Spec) in memory.
   Conditions: none. -/
import Derived.Test.YtboommppikfgnaaDoorApp
import Derived.Test.YtboommppikfgnaaDoorSpPlain
import Derived.Sort.Row
namespace Go.Proofs.YtboommppikfgnaaDoor
open Go Go.RowKit

/-- Each block of Z that was there is as it was. -/
structure Kz (Z : Nat → Prop) (w w' : World) : Prop where
  os : w'.os = w.os
  tape : w'.tape = w.tape
  output : w'.output = w.output
  size : w.heap.size ≤ w'.heap.size
  block : ∀ k, Z k → k < w.heap.size → w'.heap[k]? = w.heap[k]?
section
variable {Z Z' : Nat → Prop} {a w w' : World}
theorem Kz.refl (Z : Nat → Prop) (w : World) : Kz Z w w := ⟨rfl, rfl, rfl, Nat.le_refl _, fun _ _ _ => rfl⟩
theorem Kz.trans (h : Kz Z a w) (k : Kz Z w w') : Kz Z a w' :=
  ⟨k.os.trans h.os, k.tape.trans h.tape, k.output.trans h.output, Nat.le_trans h.size k.size, fun i hz hi => (k.block i hz (by have := h.size; omega)).trans (h.block i hz hi)⟩
theorem Kz.less (h : Kz Z w w') (hz : ∀ k, Z' k → Z k) : Kz Z' w w' := ⟨h.os, h.tape, h.output, h.size, fun k hk => h.block k (hz k hk)⟩
/-- it is enough to know Z on the blocks that were there -/
theorem Kz.at_ (h : Kz Z w w') (hz : ∀ k, k < w.heap.size → Z' k → Z k) : Kz Z' w w' := ⟨h.os, h.tape, h.output, h.size, fun k hk hl => h.block k (hz k hl hk) hl⟩
theorem Kz.of_below (h : Below w.heap.size w w') (Z : Nat → Prop) : Kz Z w w' := ⟨h.os, h.tape, h.output, h.size, fun k _ hk => h.block k hk⟩
theorem Kz.step (h : Kz Z a w) (k : Below w.heap.size w w') : Kz Z a w' := h.trans (Kz.of_below k Z)
theorem Kz.below {B : Nat} (h : Kz Z w w') (hz : ∀ k, k < B → Z k) (hB : B ≤ w.heap.size) : Below B w w' :=
  ⟨h.os, h.tape, h.output, h.size, fun k hk => h.block k (hz k hk) (by omega)⟩
theorem Kz.drew (h : Kz Z a w) : Kz Z a w.drew := ⟨h.os, h.tape, h.output, h.size, h.block⟩
theorem Kz.drewN (h : Kz Z a w) (n : Nat) : Kz Z a (w.drewN n) := ⟨h.os, h.tape, h.output, h.size, h.block⟩
theorem Kz.alloc (h : Kz Z a w) (o : Obj) : Kz Z a (w.alloc o) := h.step ((Below.refl _ _).alloc (Nat.le_refl _) o)
theorem Kz.set_ (h : Kz Z a w) {p : Addr} (hp : ¬ Z p.block) (u : Value) : Kz Z a (w.setCell p u) :=
  h.trans ⟨rfl, rfl, rfl, by simp [World.setCell], fun k hk _ => Below.heap_setCell _ _ _ _ (fun e => hp (e ▸ hk))⟩
theorem Kz.grown {row : Option Nat} (h : Kz Z a w) (hg : w.grownBy w' row) (hr : ∀ g, row = some g → ¬ Z g) : Kz Z a w' :=
  h.trans ⟨hg.os, hg.tape, hg.output, hg.size, fun k hk hl => hg.block k hl (fun e => hr k e.symm hk)⟩
theorem Blk.kz {g : Nat} {t : TypeId} {cs : Array Value} (h : Blk w g t cs) (k : Kz Z w w') (hg : Z g) : Blk w' g t cs := (k.block g hg h.lt).trans h
theorem own_kz {base : Nat} {e : TypeId} {size n : Nat} {v : Value} {xs : List Value} (h : w.ownsRow base e size v n xs) (k : Kz Z w w') (hZ : ∀ g, v.ownBlock = some g → Z g) : w'.ownsRow base e size v n xs := by
  refine ⟨h.1, ?_⟩
  rcases h.2 with hn | ⟨g, cap, cur, rfl, hbg, hg, rest⟩
  · exact .inl hn
  · exact .inr ⟨g, cap, cur, rfl, hbg, (k.block g (hZ g rfl) (lt_size hg)).trans hg, rest⟩
theorem Sl.kz {B sz n : Nat} {A : Option Addr} {xs : List Value} (h : Sl w B sz A n xs) (hB : B ≤ w.heap.size) (k : Kz Z w w') (hZ : ∀ g, g < B → Z g) : Sl w' B sz A n xs := h.below (k.below hZ hB)
end

/-- a list of ints as cells -/
def ints (l : List Int) : List Value := l.map (Value.int .i64)
theorem ints_len (l : List Int) : (ints l).length = l.length := by simp [ints]
theorem ints_one (l : List Int) : ∀ u ∈ ints l, u.oneCell' = true := by
  intro u hu
  obtain ⟨x, _, rfl⟩ := List.mem_map.1 hu
  rfl
theorem ints_app (l m : List Int) : ints (l ++ m) = ints l ++ ints m := by simp [ints]
theorem ints_at (l : List Int) (k : Nat) : (ints l)[k]? = l[k]?.map (Value.int .i64) := by simp [ints]

/-- a row of ints of someone's own -/
def Own (w : World) (v : Value) (l : List Int) : Prop := w.ownsRow 0 3 1 v l.length (ints l)
theorem Own.nil_ (w : World) : Own w (.slice none 0 0) [] := World.ownsRow_nil _ _ _ _

/-- A meaning at block b, its blocks outside Z. -/
structure SAt (w : World) (Z : Nat → Prop) (b : Nat) (sh : Int) (items : List Int) : Prop where
  zlt : ∀ k, Z k → k < w.heap.size
  at_ : ∃ v, Blk w b 99 #[v, .int .i64 sh] ∧ Own w v items ∧ ¬ Z b ∧ (∀ g, v.ownBlock = some g → ¬ Z g)
section
variable {Z Z' : Nat → Prop} {w w' : World} {b : Nat} {sh : Int} {items : List Int}
theorem SAt.lt (h : SAt w Z b sh items) : b < w.heap.size := by obtain ⟨v, h1, _⟩ := h.at_; exact h1.lt
theorem SAt.less (h : SAt w Z b sh items) (hz : ∀ k, Z' k → Z k) : SAt w Z' b sh items := by
  obtain ⟨v, h1, h2, h3, h4⟩ := h.at_
  exact ⟨fun k hk => h.zlt k (hz k hk), v, h1, h2, fun hh => h3 (hz _ hh), fun g hg hh => h4 g hg (hz _ hh)⟩
/-- whatever is new may be kept too -/
theorem SAt.step (h : SAt w Z b sh items) (hb : Below w.heap.size w w') : SAt w' (fun k => Z k ∨ (w.heap.size ≤ k ∧ k < w'.heap.size)) b sh items := by
  obtain ⟨v, h1, h2, h3, h4⟩ := h.at_
  refine ⟨fun k hk => ?_, v, h1.step hb, own_step h2 hb, fun hh => ?_, fun g hg hh => ?_⟩
  · have := hb.size
    rcases hk with hk | hk
    · have := h.zlt k hk; omega
    · exact hk.2
  · have := h1.lt
    rcases hh with hh | hh
    · exact h3 hh
    · omega
  · obtain ⟨_, cs, h'⟩ := own_at h2 g hg
    have := h'.lt
    rcases hh with hh | hh
    · exact h4 g hg hh
    · omega
theorem SAt.step' (h : SAt w Z b sh items) (hb : Below w.heap.size w w') : SAt w' Z b sh items := (h.step hb).less (fun _ hk => .inl hk)
/-- all the own blocks lie in a kept set -/
theorem SAt.kz {Y : Nat → Prop} (h : SAt w Z b sh items) (k : Kz Y w w') (hy : ∀ g, g < w.heap.size → ¬ Z g → Y g) : SAt w' Z b sh items := by
  obtain ⟨v, h1, h2, h3, h4⟩ := h.at_
  exact ⟨fun g hg => by have := h.zlt g hg; have := k.size; omega, v, h1.kz k (hy _ h1.lt h3), own_kz h2 k (fun g hg => hy g (by obtain ⟨_, cs, h'⟩ := own_at h2 g hg; exact h'.lt) (h4 g hg)), h3, h4⟩
/-- the items have changed, and are stored back -/
theorem SAt.put {v v' : Value} {items' : List Int} (hz : ∀ k, Z k → k < w.heap.size) (hb : Blk w b 99 #[v, .int .i64 sh]) (ho : Own w v items) (h3 : ¬ Z b) (h4 : ∀ g, v.ownBlock = some g → ¬ Z g)
    (hg : w.grownBy w' v.ownBlock) (ho' : Own w' v' items') (hn : ∀ g, v'.ownBlock = some g → v.ownBlock = some g ∨ w.heap.size ≤ g) :
    SAt (w'.setCell ⟨b, 0, none⟩ v') Z b sh items' ∧ Kz Z w (w'.setCell ⟨b, 0, none⟩ v') ∧ Blk w' b 99 #[v, .int .i64 sh] := by
  have hb' : Blk w' b 99 #[v, .int .i64 sh] := hb.grown hg (own_ne ho hb (by decide))
  have hk : Kz Z w w' := (Kz.refl Z w).grown hg h4
  refine ⟨⟨fun k hk' => ?_, v', ?_, ?_, h3, fun g hg' hz' => ?_⟩, hk.set_ h3 _, hb'⟩
  · have := hz k hk'; have := hg.size; simp [World.setCell]; omega
  · have := hb'.set_ 0 v'
    simpa using this
  · exact own_set ho' (own_ne ho' hb' (by decide)) _
  · rcases hn g hg' with h | h
    · exact h4 g h hz'
    · have := hz g hz'; omega
theorem SAt.grown {X : Nat} (h : SAt w Z b sh items) (hg : w.grownBy w' (some X)) (hX : Z X) : SAt w' Z b sh items :=
  h.kz (Y := fun k => k ≠ X) ⟨hg.os, hg.tape, hg.output, hg.size, fun k hk hl => hg.block k hl (by simpa using hk)⟩ (fun g _ hz e => hz (e ▸ hX))
theorem grown_set (w : World) (p : Addr) (u : Value) : w.grownBy (w.setCell p u) (some p.block) :=
  ⟨rfl, rfl, rfl, by simp [World.setCell], fun k _ hk => Below.heap_setCell _ _ _ _ (fun e => hk (by rw [e]))⟩
/-- a result of three cells is stored -/
theorem set3 {X : Nat} {t : TypeId} {p q r : Value} (h : Blk w X t #[p, q, r]) (x y z : Value) :
    Blk (((w.setCell ⟨X, 0, none⟩ x).setCell ⟨X, 1, none⟩ y).setCell ⟨X, 2, none⟩ z) X t #[x, y, z] ∧ w.grownBy (((w.setCell ⟨X, 0, none⟩ x).setCell ⟨X, 1, none⟩ y).setCell ⟨X, 2, none⟩ z) (some X) :=
  ⟨by have := ((h.set_ 0 x).set_ 1 y).set_ 2 z; simpa using this, World.grownBy.trans (World.grownBy.trans (grown_set _ ⟨X, 0, none⟩ x) (grown_set _ ⟨X, 1, none⟩ y)) (grown_set _ ⟨X, 2, none⟩ z)⟩
end
end Go.Proofs.YtboommppikfgnaaDoor
