/- Contracts of lin's open, Order, Linear.
   Conditions: the table of powers of ten lies as laid. -/
import Derived.Test.YtboommppikfgnaaDoorLinSearch
import Derived.Test.YtboommppikfgnaaDoorHOf
import Derived.Test.YtboommppikfgnaaDoorCloneH
import Derived.Test.YtboommppikfgnaaDoorSFun
namespace Go.Proofs.YtboommppikfgnaaDoor
open Go Go.RowKit

theorem numbered_good {s : HS} (g : s.Good) : Numbered s.calls := fun i c hc => (g.rng i c hc).2.2.2.2.2

set_option maxRecDepth 100000 in
set_option maxHeartbeats 1600000 in
theorem lin_open_no (sh : Int) (p : Option Addr) (w : World) (h : (sh < 1 ∨ 4 < sh) ∨ p = none) : Calls Tryd.prog 27 #[.int .i64 sh, .pointer p] w fun e w' =>
    e = .returned (.tuple #[.pointer none, .pointer none, .bool false]) ∧ Below w.heap.size w w' := by
  by_cases hs : sh < 1 ∨ 4 < sh
  · have hn := spec_New_none sh hs w
    go_enter Tryd.func27, Tryd.ntmps27
    go_wp2_with fail
    refine hn.mono ?_
    rintro e w1 ⟨rfl, rfl⟩
    go_wp2_with fail
    refine bodyPost_ret (v := .tuple #[.pointer none, .pointer none, .bool false]) (by simp [results, Tryd.results27, go_sem]) rfl ⟨rfl, Below.refl _ _⟩
  · obtain rfl : p = none := by rcases h with h | h; exact absurd h hs; exact h
    have hn := spec_New sh (by omega) w
    go_enter Tryd.func27, Tryd.ntmps27
    go_wp2_with fail
    refine hn.mono ?_
    rintro e w1 ⟨rfl, -, hb⟩
    go_wp2_with fail
    refine bodyPost_ret (v := .tuple #[.pointer none, .pointer none, .bool false]) (by simp [results, Tryd.results27, go_sem]) rfl ⟨rfl, hb⟩

set_option maxRecDepth 100000 in
set_option maxHeartbeats 1600000 in
theorem lin_open (sh : Int) (hsh : 1 ≤ sh ∧ sh ≤ 4) (b : Nat) (s : HS) (B0 : Nat) (w : World) (h : HAt w B0 b s) (hsz : s.evs.length ≤ 1000) : Calls Tryd.prog 27 #[.int .i64 sh, .pointer (some ⟨b, 0, none⟩)] w fun e w' =>
    ∃ (bb mb bs cc B : Nat) (A : Option Addr) (Z : Nat → Prop), e = .returned (.tuple #[.pointer (some ⟨bb, 0, none⟩), .pointer (some ⟨bs, 0, none⟩), .bool true]) ∧ BookAt w' bb mb sh A s.calls.length cc B s.calls 0 ∧ SAt w' Z bs sh (itemsOf sh []) ∧ Z mb ∧ w.heap.size ≤ mb ∧ Below w.heap.size w w' := by
  have hmm := @run_makeMap Tryd.prog
  have hn := spec_New sh hsh w
  go_enter Tryd.func27, Tryd.ntmps27
  go_wp2_with fail
  refine hn.mono ?_
  rintro e w1 ⟨rfl, hs1, hb1⟩
  have h1 := h.step hb1
  go_wp2_with fail
  refine (hist_calls b s B0 w1 h1 hsz).mono ?_
  rintro e w2 ⟨v, rfl, ho, hb2⟩
  obtain ⟨A, cc, rfl, -, -, -⟩ := own_form ho
  have hrow := Sl.of_own ho
  have hs2 := hs1.step' hb2
  have hb02 := hb1.trans (hb2.mono hb1.size)
  go_wp2_with fail
  have hb24 : Below w2.heap.size w2 ((w2.alloc (.map #[] 0)).alloc (.cells #[.int .i64 sh, .slice A s.calls.length cc, .map (some w2.heap.size)] 76)) := ((Below.refl _ _).alloc (Nat.le_refl _) _).alloc (by simp) _
  have hmap : ((w2.alloc (.map #[] 0)).alloc (.cells #[.int .i64 sh, .slice A s.calls.length cc, .map (some w2.heap.size)] 76)).ownsMap Tryd.prog 9 (plainElem (H := Unit) Tryd.prog 3) w2.heap.size 0 (.map []) := (World.ownsMap_made _ _ _ _).alloc _
  refine bodyPost_ret (v := .tuple #[.pointer (some ⟨w2.heap.size + 1, 0, none⟩), .pointer (some ⟨w.heap.size, 0, none⟩), .bool true]) (by simp [results, Tryd.results27, go_sem]) rfl ?_
  refine ⟨w2.heap.size + 1, w2.heap.size, w.heap.size, cc, w2.heap.size, A, _, rfl, ⟨Blk.newAt _ _ _ (by simp), hrow.below hb24, ⟨Nat.le_refl _, by omega⟩, _, hmap, VainOk.nil sh s.calls⟩, hs2.step hb24, .inr ⟨Nat.le_refl _, by simp; omega⟩, hb02.size, hb02.trans (hb24.mono hb02.size)⟩

/-- what Order tells -/
def OTold (w' : World) (e : Ending) : Option (List Int) → Prop
  | some r => ∃ A c, e = .returned (.tuple #[.slice A r.length c, .bool true, .int .i64 0]) ∧ Sl w' w'.heap.size 1 A r.length (ints r)
  | none => e = .returned (.tuple #[.slice none 0 0, .bool false, .int .i64 0])

set_option maxRecDepth 100000 in
set_option maxHeartbeats 1600000 in
theorem lin_order_no (sh : Int) (p : Option Addr) (w : World) (h : (sh < 1 ∨ 4 < sh) ∨ p = none) : Calls Tryd.prog 11 #[.int .i64 sh, .pointer p] w fun e w' =>
    e = .returned (.tuple #[.slice none 0 0, .bool false, .int .i64 1]) ∧ Below w.heap.size w w' := by
  have hn := lin_open_no sh p w h
  go_enter Tryd.func11, Tryd.ntmps11
  go_wp2_with fail
  refine hn.mono ?_
  rintro e w1 ⟨rfl, hb⟩
  go_wp2_with fail
  refine bodyPost_ret (v := .tuple #[.slice none 0 0, .bool false, .int .i64 1]) (by simp [results, Tryd.results11, go_sem]) rfl ⟨rfl, hb⟩

set_option maxRecDepth 100000 in
set_option maxHeartbeats 1600000 in
theorem lin_order_long (sh : Int) (hsh : 1 ≤ sh ∧ sh ≤ 4) (b : Nat) (s : HS) (B0 : Nat) (w : World) (h : HAt w B0 b s) (hsz : s.evs.length ≤ 1000) (hlong : 24 < s.calls.length) : Calls Tryd.prog 11 #[.int .i64 sh, .pointer (some ⟨b, 0, none⟩)] w fun e w' =>
    e = .returned (.tuple #[.slice none 0 0, .bool false, .int .i64 6]) ∧ Below w.heap.size w w' := by
  have hn := lin_open sh hsh b s B0 w h hsz
  have hl : (24 : Int) < (s.calls.length : Int) := by omega
  go_enter Tryd.func11, Tryd.ntmps11
  go_wp2_with fail
  refine hn.mono ?_
  rintro e w1 ⟨bb, mb, bs, cc, B, A, Z, rfl, hbk, -, -, -, hb⟩
  have hc := hbk.blk.cells
  go_wp2_with fail
  refine bodyPost_ret (v := .tuple #[.slice none 0 0, .bool false, .int .i64 6]) (by simp [results, Tryd.results11, go_sem]) rfl ⟨rfl, hb⟩

set_option maxRecDepth 100000 in
set_option maxHeartbeats 1600000 in
theorem lin_order (sh : Int) (hsh : 1 ≤ sh ∧ sh ≤ 4) (b : Nat) (s : HS) (B0 β : Nat) (w : World) (h : HAt w B0 b s) (hg : s.Good) (hsz : s.evs.length ≤ 1000) (hlong : s.calls.length ≤ 24) (hβ : Branch sh s.calls β) (hcost : cost β s.calls.length ≤ maxLen)
    (htab : ∀ w', Below w.heap.size w w' → Lib.TabIs Tryd.prog w' "internal/strconv.uint64pow10" .u64 Lib.pow10Tab) : Calls Tryd.prog 11 #[.int .i64 sh, .pointer (some ⟨b, 0, none⟩)] w fun e w' =>
    OTold w' e (findL sh s.calls 0 []) ∧ Below w.heap.size w w' := by
  have hn := lin_open sh hsh b s B0 w h hsz
  have hl : ¬ (24 : Int) < (s.calls.length : Int) := by omega
  have hid := numbered_good hg
  have HT := Lib.hid htab
  clear htab
  go_enter Tryd.func11, Tryd.ntmps11
  go_wp2_with fail
  refine hn.mono ?_
  rintro e w1 ⟨bb, mb, bs, cc, B, A, Z, rfl, hbk, hs, hZ, hmb, hb⟩
  have hc := hbk.blk.cells
  have hl0 : left s.calls.length 0 = s.calls.length := by
    unfold left
    have : ((List.range s.calls.length).filter fun i => !(0 : Nat).testBit i) = List.range s.calls.length := List.filter_eq_self.2 (fun i _ => by simp)
    rw [this, List.length_range]
  have hse := book_search sh s.calls A s.calls.length cc B bb mb β w.heap.size w hsh rfl (by omega) hid hβ HT.out hmb s.calls.length 0 [] [] 0 0 0 bs none Z w1 hl0 (by omega) (fun o ho => by cases ho) (by simp; omega) rfl (Nat.le_refl _) (by omega) hbk hb hs hZ (Sl.of_own (base := 0) (e := 3) (c := 0) (World.ownsRow_nil _ _ _ _)) (by omega)
  go_wp2_with fail
  refine hse.mono ?_
  rintro e w2 ⟨htold, hbk2, hk2⟩
  have hb2 : Below w.heap.size w w2 := hb.trans (hk2.below (fun k hk => by omega) hb.size)
  clear hse
  have hit : itemsOf sh ([] : List Opn) = [] := rfl
  rw [hit] at htold
  cases hf : findL sh s.calls 0 [] with
  | none =>
    rw [hf] at htold
    obtain rfl := htold
    go_wp2_with fail
    refine bodyPost_ret (v := .tuple #[.slice none 0 0, .bool false, .int .i64 0]) (by simp [results, Tryd.results11, go_sem]) rfl ⟨by rw [hf]; rfl, hb2⟩
  | some r =>
    rw [hf] at htold
    obtain ⟨Ar, cr, rfl, hsr, -⟩ := htold
    rw [Nat.zero_add, List.nil_append] at hsr
    rw [Nat.zero_add]
    go_wp2_with fail
    refine bodyPost_ret (v := .tuple #[.slice Ar r.length cr, .bool true, .int .i64 0]) (by simp [results, Tryd.results11, go_sem]) rfl ⟨by rw [hf]; exact ⟨Ar, cr, rfl, hsr⟩, hb2⟩

set_option maxHeartbeats 400000 in
theorem lin_linear_of (sh : Int) (p : Option Addr) (w : World) (_ : Value) (ok : Bool) (er : Int) (h : Calls Tryd.prog 11 #[.int .i64 sh, .pointer p] w fun e w' => (∃ v, e = .returned (.tuple #[v, .bool ok, .int .i64 er])) ∧ Below w.heap.size w w') :
    Calls Tryd.prog 12 #[.int .i64 sh, .pointer p] w fun e w' => e = .returned (.bool ok) ∧ Below w.heap.size w w' := by
  go_enter Tryd.func12, Tryd.ntmps12
  go_wp2_with fail
  refine h.mono ?_
  rintro e w1 ⟨⟨v, rfl⟩, hb⟩
  go_wp2_with fail
  go_ret
  exact ⟨rfl, hb⟩
theorem lin_linear_no (sh : Int) (p : Option Addr) (w : World) (h : (sh < 1 ∨ 4 < sh) ∨ p = none) : Calls Tryd.prog 12 #[.int .i64 sh, .pointer p] w fun e w' => e = .returned (.bool false) ∧ Below w.heap.size w w' :=
  lin_linear_of sh p w (.bool false) false 1 ((lin_order_no sh p w h).mono fun _ _ ⟨he, hb⟩ => ⟨⟨_, he⟩, hb⟩)
theorem lin_linear (sh : Int) (hsh : 1 ≤ sh ∧ sh ≤ 4) (b : Nat) (s : HS) (B0 β : Nat) (w : World) (h : HAt w B0 b s) (hg : s.Good) (hsz : s.evs.length ≤ 1000) (hlong : s.calls.length ≤ 24) (hβ : Branch sh s.calls β) (hcost : cost β s.calls.length ≤ maxLen)
    (htab : ∀ w', Below w.heap.size w w' → Lib.TabIs Tryd.prog w' "internal/strconv.uint64pow10" .u64 Lib.pow10Tab) (ok : Bool) (hok : (findL sh s.calls 0 []).isSome = ok) : Calls Tryd.prog 12 #[.int .i64 sh, .pointer (some ⟨b, 0, none⟩)] w fun e w' =>
    e = .returned (.bool ok) ∧ Below w.heap.size w w' := by
  refine lin_linear_of sh _ w (.bool false) ok 0 ((lin_order sh hsh b s B0 β w h hg hsz hlong hβ hcost htab).mono fun e w' ⟨ht, hb⟩ => ⟨?_, hb⟩)
  cases hf : findL sh s.calls 0 [] with
  | none =>
    rw [hf] at ht hok
    exact ⟨_, by rw [← hok]; exact ht⟩
  | some r =>
    rw [hf] at ht hok
    obtain ⟨A, c, he, -⟩ := ht
    exact ⟨_, by rw [← hok]; exact he⟩
end Go.Proofs.YtboommppikfgnaaDoor
