/- sherpalaw08.awake returns true.
   Conditions: none. -/
import Derived.Test.YtboommppikfgnaaCloneH
namespace Go.Proofs.Ytboommppikfgnaa
open Go Go.RowKit

def aw0 : HS := HS.new.begin_ 0 1 0
def aw1 : HS := aw0.begin_ 1 2 0
def aw2 : HS := aw1.end_ 0 0 true 0
theorem aw2_calls : aw2.calls = [⟨0, 2, 0, 0, 1, 0, 0, true, 0⟩, ⟨1, -1, 1, 1, 2, 0, 0, false, 0⟩] := rfl

theorem own_some {w : World} {base : Nat} {e : TypeId} {size n : Nat} {v : Value} {xs : List Value} (h : w.ownsRow base e size v n xs) (hn : 0 < n) : ∃ g c, v = .slice (some ⟨g, 0, none⟩) n c ∧ base ≤ g ∧ g < w.heap.size := by
  rcases h.2 with ⟨_, h0⟩ | ⟨g, cap, cur, hv, hb, hh, _⟩
  · omega
  · exact ⟨g, cap, hv, hb, lt_size hh⟩

set_option maxRecDepth 100000 in
set_option maxHeartbeats 1600000 in
theorem hawake (w : World) : Calls Try.prog 13 #[] w fun e w' => e = .returned (.bool true) ∧ Below w.heap.size w w' := by
  have e0 : HS.new.errB 0 = 0 := rfl
  have e1 : aw0.errB 1 = 0 := rfl
  have e2 : aw1.errE 0 = 0 := rfl
  have E0 := Lib.hid e0
  have E1 := Lib.hid e1
  have E2 := Lib.hid e2
  clear e0 e1 e2
  go_enter Try.func13, Try.ntmps13
  go_wp2_with fail
  refine (hist_new _).mono ?_
  rintro e w1 ⟨rfl, h0, k0⟩
  have k0 := Kp.of_below k0 [89, 54, 44]
  have hs1 := k0.size
  go_wp2_with fail
  refine (hist_begin _ HS.new w.heap.size _ _ _ _ h0 (by omega) (by simp [HS.new])).mono ?_
  rw [E0.out]
  rintro e w2 ⟨rfl, h1, k1⟩
  have k1 := k0.trans k1
  have hs2 := k1.size
  clear h0 k0 hs1
  go_wp2_with fail
  refine (hist_begin _ aw0 w.heap.size _ _ _ _ h1 (by omega) (by simp [aw0, HS.begin_, HS.errB, HS.new, HS.doB])).mono ?_
  rw [E1.out]
  rintro e w3 ⟨rfl, h2, k2⟩
  have k2 := k1.trans k2
  have hs3 := k2.size
  clear h1 k1 hs2
  go_wp2_with fail
  refine (hist_end _ aw1 w.heap.size _ _ _ _ _ h2 (by omega) (by simp [aw1, aw0, HS.begin_, HS.errB, HS.new, HS.doB])).mono ?_
  rw [E2.out]
  rintro e w4 ⟨rfl, h3, k3⟩
  have k3 := k2.trans k3
  have hs4 := k3.size
  clear h2 k2 hs3
  go_wp2_with fail
  refine (hist_calls _ aw2 w.heap.size _ h3 (by decide)).mono ?_
  rintro e w5 ⟨v, rfl, ho, hb5⟩
  rw [aw2_calls] at ho
  obtain ⟨g, c, rfl, hg1, hg2⟩ := own_some ho (by decide)
  have k5 := k3.step (by omega) hb5
  have hs5 := k5.size
  clear h3 k3
  go_wp2_with fail
  have hc : ∀ (q : Later w5.heap.size w5) (j : Nat), j < 18 → q.val.cell? ⟨g, j, none⟩ = ([.int .i64 0, .int .i64 2, .int .i64 0, .int .i64 0, .int .i64 1, .int .i64 0, .int .i64 0, .bool true, .int .i64 0, .int .i64 1, .int .i64 (-1), .int .i64 1, .int .i64 1, .int .i64 2, .int .i64 0, .int .i64 0, .bool false, .int .i64 0] : List Value)[j]? := fun q j hj => by
    have h1 := Later.cell (B := w5.heap.size) (ho.cellAt j (by simpa using hj)) hg2 q
    rw [h1]
    rfl
  have c0 := fun q => hc q 0 (by omega)
  have c1 := fun q => hc q 1 (by omega)
  have c9 := fun q => hc q 9 (by omega)
  have c10 := fun q => hc q 10 (by omega)
  simp only [List.getElem?_cons_succ, List.getElem?_cons_zero] at c0 c1 c9 c10
  clear hc
  refine wp_region_later w5.heap.size (by kernel_rfl) (by kernel_rfl) ?_
  repeat (go_big_quiet_step ((first | (go_at_call 15; exact Later.call (Nat.le_refl _) (span_pending _ _ _)) | (go_at_call 14; exact Later.call (Nat.le_refl _) (span_before _ _ _ _ _)))))
  refine wpQuiet_nil ?_
  intro W hq
  obtain ⟨q, hq⟩ := hq
  have hb6 : Below w5.heap.size w5 W := by rw [hq]; exact q.below
  clear hq q c0 c1 c9 c10
  go_wp2_with fail
  go_ret
  refine ⟨rfl, ((k5.step (by omega) hb6).below)⟩

end Go.Proofs.Ytboommppikfgnaa
