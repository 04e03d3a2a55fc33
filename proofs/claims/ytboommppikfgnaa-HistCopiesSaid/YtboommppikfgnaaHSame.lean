/- Contract of the law's same and of the history's add.
   Conditions: at most 1000 events. -/
import Derived.Test.YtboommppikfgnaaHRefW
import Derived.Test.YtboommppikfgnaaCloneH
import Derived.Test.YtboommppikfgnaaHc
import Derived.Test.YtboommppikfgnaaHInv
import Derived.Deep.DeepCutAuto
namespace Go.Proofs.Ytboommppikfgnaa
open Go Go.RowKit

theorem hevSz : (Try.prog.info? 54).map (·.size) = some 7 := by kernel_rfl

set_option maxRecDepth 100000 in
set_option maxHeartbeats 3200000 in
theorem law_same (A : Option Addr) (b : Nat) (s : HS) (BH n c B : Nat) (w : World) (h : HAt w BH b s) (hs : Sl w B 7 A n (s.evs.flatMap Ev.cells)) (hB : B ≤ w.heap.size) (hel : s.evs.length = n) (hn : n ≤ 1000) :
    Calls Try.prog 25 #[.pointer (some ⟨b, 0, none⟩), .slice A n c] w fun r w' => r = .returned (.bool true) ∧ Below w.heap.size w w' := by
  have HL := Lib.hid hel
  have hn' : s.evs.length ≤ 1000 := by omega
  go_enter Try.func25, Try.ntmps25
  go_wp2_with (go_at_call 28; refine (hist_events b s BH w h hn').mono ?_; rintro e w1 ⟨v, rfl, ho, hb1⟩; rw [hel] at ho; obtain ⟨A1, c1, rfl, -, -, -⟩ := own_form ho)
  have h1 := h.step hb1
  have hs1 := hs.step hB hb1
  have hv1 := Sl.of_own ho
  have hB1 : w.heap.size ≤ w1.heap.size := hb1.size
  clear h hs ho
  have hlen := hist_len b s BH w1 h1
  rw [hel] at hlen
  clear hel hn'
  refine hlen.mono ?_
  rintro e w1' ⟨rfl, rfl⟩
  go_wp2_with fail
  go_loopw [25] (fun i wr => ∃ k : Nat, k ≤ n ∧ i = .int .i64 k ∧ Below w1.heap.size w1 wr) (fun i _ => n - (intOf i).toNat)
  case atStart => exact ⟨0, by omega, rfl, Below.refl _ _⟩
  case round =>
    obtain ⟨k, hk, rfl, hb⟩ := hrel
    by_cases hlt : k < n
    · have dk : decide ((k : Int) < (n : Int)) = true := by simp; omega
      obtain ⟨e, he⟩ : ∃ e, s.evs[k]? = some e := ⟨_, List.getElem?_eq_getElem (by rw [HL.out]; exact hlt)⟩
      have hs2 := hs1.below (hb.mono (by omega))
      have hv2 := hv1.below hb
      have hidx := hs2.idx (P := Try.prog) (c := c) Try.underlying29 evSz hlt
      have hidv := hv2.idx (P := Try.prog) (c := c1) Try.underlying52 hevSz hlt
      obtain ⟨f0, f1, f2, f3, f4, f5, f6⟩ := ev_cells hs2 hlt he
      obtain ⟨g0, g1, g2, g3, g4, g5, g6⟩ := ev_cells hv2 hlt he
      have hbs := hb.size
      have hl0 := hs2.blt (by omega)
      have hl1 := hv2.blt (by omega)
      go_upto_region 7 with (fail)
      clear f0 f1 f2 f3 f4 f5 f6 hidx hidv
      have hx := Blk.new wr 38 #[.int .i64 e.th, .bool e.ends, .int .i64 e.kind, .int .i64 e.key, .int .i64 e.code, .bool e.ok, .int .i64 e.val]
      have hb7 := (Below.refl wr.heap.size wr).alloc (Nat.le_refl _) (.cells #[.int .i64 e.th, .bool e.ends, .int .i64 e.kind, .int .i64 e.key, .int .i64 e.code, .bool e.ok, .int .i64 e.val] 38)
      generalize (wr.alloc (.cells #[.int .i64 e.th, .bool e.ends, .int .i64 e.kind, .int .i64 e.key, .int .i64 e.code, .bool e.ok, .int .i64 e.val] 38)) = W7 at *
      generalize wr.heap.size = X at *
      have hv7 := hv2.below (hb7.mono hbs)
      obtain ⟨g0, g1, g2, g3, g4, g5, g6⟩ := ev_cells hv7 hlt he
      have hidv := hv7.idx (P := Try.prog) (c := c1) Try.underlying52 hevSz hlt
      have hXl := hx.lt
      go_upto_region 8 with (fail)
      clear g0 g1 g2 g3 g4 g5 g6 hidv
      have hy := Blk.new W7 54 #[.int .i64 e.th, .bool e.ends, .int .i64 e.kind, .int .i64 e.key, .int .i64 e.code, .bool e.ok, .int .i64 e.val]
      have hx8 := hx.alloc (.cells #[.int .i64 e.th, .bool e.ends, .int .i64 e.kind, .int .i64 e.key, .int .i64 e.code, .bool e.ok, .int .i64 e.val] 54)
      have hb8 := hb7.alloc (by omega) (.cells #[.int .i64 e.th, .bool e.ends, .int .i64 e.kind, .int .i64 e.key, .int .i64 e.code, .bool e.ok, .int .i64 e.val] 54)
      generalize (W7.alloc (.cells #[.int .i64 e.th, .bool e.ends, .int .i64 e.kind, .int .i64 e.key, .int .i64 e.code, .bool e.ok, .int .i64 e.val] 54)) = W8 at *
      generalize W7.heap.size = Y at *
      have cx := hx8.cells
      have cy := hy.cells
      go_wp2_with fail
      go_roundw
      case rel => exact ⟨k + 1, by omega, by go_num, hb.trans (hb8.mono (by omega))⟩
      case measure => simp [intOf]; omega
    · have dk : decide ((k : Int) < (n : Int)) = false := by simp; omega
      go_wp2_with fail
      go_ret
      exact ⟨rfl, hb1.trans (hb.mono hB1)⟩

set_option maxHeartbeats 400000 in
theorem hist_add (b : Nat) (s : HS) (B : Nat) (e : Ev) (w : World) (h : HAt w B b s) (hB : B ≤ w.heap.size) (hn : s.evs.length ≤ 1000) :
    Calls Try.prog 50 #[.pointer (some ⟨b, 0, none⟩), .agg #[.int .i64 e.th, .bool e.ends, .int .i64 e.kind, .int .i64 e.key, .int .i64 e.code, .bool e.ok, .int .i64 e.val]] w fun r w' =>
      r = .returned (.int .i64 (if e.ends then s.errE e.th else s.errB e.th)) ∧ HAt w' B b (s.step e) ∧ Kp B [89, 54, 44] w w' := by
  cases hen : e.ends with
  | true =>
    have hst : s.step e = s.end_ e.th e.code e.ok e.val := by simp [HS.step, hen]
    rw [hst]
    clear hst hen
    go_enter Try.func50, Try.ntmps50
    go_wp2_with fail
    refine (hist_end b s B e.th e.code e.ok e.val _ (h.alloc _) (by simp; omega) hn).mono ?_
    rintro r w' ⟨rfl, h', k'⟩
    go_wp2_with fail
    go_ret
    exact ⟨rfl, h', (((Kp.of_below (Below.refl _ _) _).mono hB (fun _ h => h)).alloc hB _).trans k'⟩
  | false =>
    have hst : s.step e = s.begin_ e.th e.kind e.key := by simp [HS.step, hen]
    rw [hst]
    clear hst hen
    go_enter Try.func50, Try.ntmps50
    go_wp2_with fail
    refine (hist_begin b s B e.th e.kind e.key _ (h.alloc _) (by simp; omega) hn).mono ?_
    rintro r w' ⟨rfl, h', k'⟩
    go_wp2_with fail
    go_ret
    exact ⟨rfl, h', (((Kp.of_below (Below.refl _ _) _).mono hB (fun _ h => h)).alloc hB _).trans k'⟩

end Go.Proofs.Ytboommppikfgnaa
