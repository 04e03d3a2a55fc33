/- Contracts of spec: New, Len, Items, First, put, cut, end, take.
   Conditions: at most 1000 items. -/
import Derived.Test.YtboommppikfgnaaDoorSTask
import Derived.Test.YtboommppikfgnaaDoorCloneI
namespace Go.Proofs.YtboommppikfgnaaDoor
open Go Go.RowKit

set_option maxHeartbeats 400000 in
theorem spec_New (sh : Int) (hs : 1 ≤ sh ∧ sh ≤ 4) (w : World) : Calls Tryd.prog 43 #[.int .i64 sh] w fun e w' =>
    e = .returned (.tuple #[.pointer (some ⟨w.heap.size, 0, none⟩), .int .i64 0]) ∧ SAt w' (· < w.heap.size) w.heap.size sh [] ∧ Below w.heap.size w w' := by
  have fin : ∀ s : Int, SAt (w.alloc (.cells #[.slice none 0 0, .int .i64 s] 99)) (· < w.heap.size) w.heap.size s [] := fun s =>
    ⟨fun k hk => by simp; omega, _, Blk.new _ _ _, Own.nil_ _, Nat.lt_irrefl _, fun g hg => by simp [Value.ownBlock] at hg⟩
  have hc : sh = 1 ∨ sh = 2 ∨ sh = 3 ∨ sh = 4 := by omega
  rcases hc with rfl | rfl | rfl | rfl
  all_goals
    go_enter Tryd.func43, Tryd.ntmps43
    go_wp2
    go_ret2
    exact ⟨rfl, fin _, (Below.refl _ _).alloc (Nat.le_refl _) _⟩
theorem spec_New_none (sh : Int) (hs : sh < 1 ∨ 4 < sh) (w : World) : Calls Tryd.prog 43 #[.int .i64 sh] w fun e w' =>
    e = .returned (.tuple #[.pointer none, .int .i64 1]) ∧ w' = w := by
  have e1 : (sh == 1) = false := by simp; omega
  have e2 : (sh == 2) = false := by simp; omega
  have e3 : (sh == 3) = false := by simp; omega
  have e4 : (sh == 4) = false := by simp; omega
  clear hs
  go_enter Tryd.func43, Tryd.ntmps43
  go_wp2
  go_ret2
  exact ⟨rfl, rfl⟩

section
variable {Z : Nat → Prop} {b : Nat} {sh : Int} {items : List Int} {w : World}
set_option maxHeartbeats 400000 in
theorem bag_Len (h : SAt w Z b sh items) : Calls Tryd.prog 75 #[.pointer (some ⟨b, 0, none⟩)] w fun e w' => e = .returned (.int .i64 items.length) ∧ w = w' := by
  obtain ⟨v, h1, h2, -, -⟩ := h.at_
  obtain ⟨A, c, rfl, -, -, -⟩ := own_form h2
  have hcell := h1.cell 0
  clear h1 h2 h
  go_enter Tryd.func75, Tryd.ntmps75
  go_wp2
  go_ret
  exact ⟨rfl, rfl⟩
set_option maxHeartbeats 400000 in
theorem bag_Items (h : SAt w Z b sh items) (hl : items.length ≤ 1000) : Calls Tryd.prog 38 #[.pointer (some ⟨b, 0, none⟩)] w fun e w' =>
    ∃ v, e = .returned v ∧ w'.ownsRow w.heap.size 3 1 v items.length (ints items) ∧ Below w.heap.size w w' := by
  obtain ⟨v, h1, h2, -, -⟩ := h.at_
  obtain ⟨A, c, rfl, -, hn, -⟩ := own_form h2
  have hcell := h1.cell 0
  have hcl := clone_int A items.length c w.heap.size (ints items) w (Sl.of_own h2) (Nat.le_refl _) (ints_one _) (by omega) hn
  clear h1 h2 h hn
  go_enter Tryd.func38, Tryd.ntmps38
  go_wp2_with fail
  refine hcl.mono ?_
  rintro e w' ⟨v, rfl, ho, hb⟩
  go_wp2_with fail
  go_ret
  exact ⟨_, rfl, ho, hb⟩
def firstI (l : List Int) : Int := l.headD 0
def someI (l : List Int) : Bool := !l.isEmpty
set_option maxHeartbeats 400000 in
theorem bag_First (h : SAt w Z b sh items) : Calls Tryd.prog 76 #[.pointer (some ⟨b, 0, none⟩)] w fun e w' =>
    e = .returned (.tuple #[.int .i64 (firstI items), .bool (someI items)]) ∧ w = w' := by
  obtain ⟨v, h1, h2, -, -⟩ := h.at_
  have hcell := h1.cell 0
  cases items with
  | nil =>
    obtain ⟨A, c, rfl, -, -, -⟩ := own_form h2
    clear h1 h2 h
    go_enter Tryd.func76, Tryd.ntmps76
    go_wp2
    go_ret2
    exact ⟨rfl, rfl⟩
  | cons x l =>
    rcases h2.2 with ⟨rfl, hn⟩ | ⟨g, cap, cur, rfl, -, hg, hnc, hcm, hcs, htake⟩
    · simp at hn
    · have hx := own_getD h2 0 (by simp)
      have hx' : w.cell? ⟨g, 0, none⟩ = some (.int .i64 x) := by simpa using hx
      have hne : ¬ ((x :: l).length : Int) = 0 := by simp; omega
      have hpos : 0 < (x :: l).length := by simp
      clear h1 h2 h hx hg hnc hcm hcs htake
      generalize hlen : (x :: l).length = n at *
      clear hlen
      go_enter Tryd.func76, Tryd.ntmps76
      go_wp2
      go_ret2
      exact ⟨rfl, rfl⟩

set_option maxHeartbeats 400000 in
theorem bag_put (i : Nat) (x : Int) (h : SAt w Z b sh items) (hi : i ≤ items.length) (hl : items.length ≤ 1000) :
    Calls Tryd.prog 62 #[.pointer (some ⟨b, 0, none⟩), .int .i64 (i : Int), .int .i64 x] w fun e w' => e = .returned (.tuple #[]) ∧ SAt w' Z b sh (insAt items i x) ∧ Kz Z w w' := by
  obtain ⟨v, h1, h2, h3, h4⟩ := h.at_
  have hz := h.zlt
  have hcell := h1.cell 0
  have hb := h1.lt
  have hx := Blk.new w 3 #[.int .i64 x]
  have hk : Below w.heap.size w (w.alloc (.cells #[.int .i64 x] 3)) := (Below.refl _ _).alloc (Nat.le_refl _) _
  have hne : v.ownBlock ≠ some w.heap.size := fun he => by obtain ⟨_, cs, h'⟩ := own_at h2 _ he; have := h'.lt; omega
  have hins := ins_own v i items x w.heap.size _ (own_step h2 hk) hi (by omega) hx hne
  have h1' := h1.step hk
  have h2' : Own _ v items := own_step h2 hk
  have hfz := h1'
  obtain ⟨A, c, rfl, -, -, -⟩ := own_form h2
  have hz' : ∀ k, Z k → k < (w.alloc (.cells #[.int .i64 x] 3)).heap.size := fun k hk => by have := hz k hk; simp; omega
  clear h1 h2 h hx hfz
  go_enter Tryd.func62, Tryd.ntmps62
  go_wp2_with fail
  generalize (w.alloc (.cells #[.int .i64 x] 3)) = W at *
  refine hins.mono ?_
  rintro e w1 ⟨v', rfl, ho', hg, hn⟩
  obtain ⟨hs, hkz, hb1⟩ := SAt.put hz' h1' h2' h3 h4 hg ho' hn
  have hc1 := hb1.cell 0
  have hf1 := hb1.frozen 0
  obtain ⟨A', c', rfl, -, -, -⟩ := own_form ho'
  go_wp2_with fail
  go_end0
  exact ⟨rfl, hs, (Kz.of_below hk Z).trans hkz⟩

set_option maxHeartbeats 400000 in
theorem bag_cut (i : Nat) (h : SAt w Z b sh items) (hi : i < items.length) (hl : items.length ≤ 1000) :
    Calls Tryd.prog 63 #[.pointer (some ⟨b, 0, none⟩), .int .i64 (i : Int)] w fun e w' => e = .returned (.tuple #[]) ∧ SAt w' Z b sh (items.eraseIdx i) ∧ Kz Z w w' := by
  obtain ⟨v, h1, h2, h3, h4⟩ := h.at_
  have hz := h.zlt
  have hcell := h1.cell 0
  have hb := h1.lt
  have hdel := del_own v i items w h2 hi
  obtain ⟨A, c, rfl, -, -, -⟩ := own_form h2
  clear h
  go_enter Tryd.func63, Tryd.ntmps63
  go_wp2_with fail
  refine (hdel _ rfl).mono ?_
  rintro e w1 ⟨v', rfl, ho', hg, hn⟩
  obtain ⟨hs, hkz, hb1⟩ := SAt.put hz h1 h2 h3 h4 hg ho' (fun g hg => .inl (hn g hg))
  have hc1 := hb1.cell 0
  have hf1 := hb1.frozen 0
  obtain ⟨A', c', rfl, -, -, -⟩ := own_form ho'
  clear h1 h2 hdel hcell
  go_wp2_with fail
  go_end0
  exact ⟨rfl, hs, hkz⟩

set_option maxHeartbeats 400000 in
theorem spec_end (h : SAt w Z b sh items) : Calls Tryd.prog 64 #[.pointer (some ⟨b, 0, none⟩)] w fun e w' => e = .returned (.int .i64 (if sh = 3 then (items.length : Int) else 0)) ∧ w = w' := by
  have hlen := bag_Len h
  obtain ⟨v, h1, h2, -, -⟩ := h.at_
  have hcell := h1.cell 1
  clear h1 h2 h
  by_cases h3 : sh = 3
  · subst h3
    go_enter Tryd.func64, Tryd.ntmps64
    go_wp2_with fail
    refine hlen.mono ?_
    rintro e w1 ⟨rfl, rfl⟩
    go_wp2_with fail
    go_ret
    exact ⟨rfl, rfl⟩
  · have e3 : (sh == 3) = false := by simpa using h3
    have H := Lib.hid h3
    clear h3
    go_enter Tryd.func64, Tryd.ntmps64
    go_wp2_with fail
    go_ret
    exact ⟨by first | rfl | rw [if_neg H.out]; rfl, rfl⟩

def Rsl.val' (r : Rsl) : Value := .agg #[.int .i64 r.code, .bool r.ok, .int .i64 r.val]
set_option maxHeartbeats 400000 in
theorem spec_take (h : SAt w Z b sh items) (hl : items.length ≤ 1000) : Calls Tryd.prog 65 #[.pointer (some ⟨b, 0, none⟩)] w fun e w' =>
    e = .returned (.agg #[.int .i64 0, .bool (someI items), .int .i64 (firstI items)]) ∧ SAt w' Z b sh items.tail ∧ Kz Z w w' := by
  have hk : Below w.heap.size w (w.alloc (.cells #[.int .i64 0, .bool false, .int .i64 0] 50)) := (Below.refl _ _).alloc (Nat.le_refl _) _
  have h' := h.step hk
  have hx := Blk.new w 50 #[.int .i64 0, .bool false, .int .i64 0]
  have hk' := Kz.of_below hk Z
  have hz := h.zlt
  clear h hk
  go_enter Tryd.func65, Tryd.ntmps65
  go_wp2_with fail
  generalize hW : (w.alloc (.cells #[.int .i64 0, .bool false, .int .i64 0] 50)) = W at *
  have hWs : w.heap.size < W.heap.size := by rw [← hW]; simp
  clear hW
  refine (bag_First h').mono ?_
  rintro e w1 ⟨rfl, rfl⟩
  have fin : ∀ (W1 : World) (items' : List Int) (x y z : Value), SAt W1 (fun k => Z k ∨ (w.heap.size ≤ k ∧ k < W.heap.size)) b sh items' → Kz (fun k => Z k ∨ (w.heap.size ≤ k ∧ k < W.heap.size)) W W1 → Blk W1 w.heap.size 50 #[.int .i64 0, .bool false, .int .i64 0] →
      SAt (((W1.setCell ⟨w.heap.size, 0, none⟩ x).setCell ⟨w.heap.size, 1, none⟩ y).setCell ⟨w.heap.size, 2, none⟩ z) Z b sh items' ∧ Kz Z w (((W1.setCell ⟨w.heap.size, 0, none⟩ x).setCell ⟨w.heap.size, 1, none⟩ y).setCell ⟨w.heap.size, 2, none⟩ z) ∧
      Blk (((W1.setCell ⟨w.heap.size, 0, none⟩ x).setCell ⟨w.heap.size, 1, none⟩ y).setCell ⟨w.heap.size, 2, none⟩ z) w.heap.size 50 #[x, y, z] := fun W1 items' x y z s k hb => by
    obtain ⟨b1, g1⟩ := set3 hb x y z
    refine ⟨(s.grown g1 (.inr ⟨Nat.le_refl _, hWs⟩)).less (fun _ h => .inl h), (hk'.trans (k.less (fun _ h => .inl h))).grown g1 (fun g hg hz' => ?_), b1⟩
    injection hg with hg; have := hz g hz'; omega
  cases items with
  | nil =>
    have hx0 := hx.frozen 0
    have hx1 := hx.frozen 1
    have hx2 := hx.frozen 2
    have hc := hx.cells
    obtain ⟨f1, f2, f3⟩ := fin W [] (.int .i64 0) (.bool false) (.int .i64 0) h' (Kz.refl _ _) hx
    have hc' := f3.cells
    clear fin f3
    simp only [firstI, someI, List.headD_nil, List.isEmpty_nil, Bool.not_true]
    go_wp2_with fail
    generalize (((W.setCell ⟨w.heap.size, 0, none⟩ (.int .i64 0)).setCell ⟨w.heap.size, 1, none⟩ (.bool false)).setCell ⟨w.heap.size, 2, none⟩ (.int .i64 0)) = W2 at *
    exact bodyPost_ret (v := .agg #[.int .i64 0, .bool false, .int .i64 0]) (by simp [results, Tryd.results65, go_sem, hc']) rfl ⟨rfl, f1, f2⟩
  | cons x l =>
    simp only [firstI, someI, List.headD_cons, List.isEmpty_cons, Bool.not_false]
    go_wp2_with fail
    refine (bag_cut 0 h' (by simp) hl).mono ?_
    rintro e w1 ⟨rfl, s1, k1⟩
    have hx1 := hx.kz k1 (.inr ⟨Nat.le_refl _, hWs⟩)
    obtain ⟨f1, f2, f3⟩ := fin w1 l (.int .i64 0) (.bool true) (.int .i64 x) s1 k1 hx1
    have hy0 := hx1.frozen 0
    have hy1 := hx1.frozen 1
    have hy2 := hx1.frozen 2
    have hc := hx1.cells
    have hc' := f3.cells
    clear fin f3 hx hx1
    go_wp2_with fail
    generalize (((w1.setCell ⟨w.heap.size, 0, none⟩ (.int .i64 0)).setCell ⟨w.heap.size, 1, none⟩ (.bool true)).setCell ⟨w.heap.size, 2, none⟩ (.int .i64 x)) = W2 at *
    exact bodyPost_ret (v := .agg #[.int .i64 0, .bool true, .int .i64 x]) (by simp [results, Tryd.results65, go_sem, hc']) rfl ⟨rfl, f1, f2⟩
end
end Go.Proofs.YtboommppikfgnaaDoor
