/- Contracts of the laws' plain and same (layer 20).
   Conditions: at most 2000000 picks. -/
import Derived.Test.YtiihhpmgfmiacaaDoorSchRefP
import Derived.Test.YtiihhpmgfmiacaaDoorSchParse
import Derived.BigQuiet
import Derived.WalkSpells
import Derived.WalkLawsBesides
namespace Go.Proofs.YtiihhpmgfmiacaaDoor
open Go Go.RowKit

theorem pkSz : (Tryd.prog.info? 33).map (·.size) = some 2 := by kernel_rfl
theorem rpkSz : (Tryd.prog.info? 34).map (·.size) = some 2 := by kernel_rfl
theorem take_snoc (ps : List Pk) (k : Nat) (p : Pk) (h : ps[k]? = some p) : ps.take (k + 1) = ps.take k ++ [p] := by
  rw [List.take_add_one, h]; rfl

set_option maxRecDepth 100000 in
set_option maxHeartbeats 1600000 in
theorem law_plain (A : Option Addr) (n c B : Nat) (ps : List Pk) (w : World) (hs : Sl w B 2 A n (ps.flatMap Pk.cells)) (hB : B ≤ w.heap.size) (hn : ps.length = n) (hn' : n ≤ 2000000) :
    Calls Tryd.prog 14 #[.slice A n c] w fun e w' => ∃ v, e = .returned v ∧ w'.ownsRow w.heap.size 34 2 v n (ps.flatMap Pk.cells) ∧ Below w.heap.size w w' := by
  obtain ⟨iP, hiP, zP, sP, bP⟩ := info_parts info_RPick
  have HN := Lib.hid hn
  clear hn
  go_enter Tryd.func14, Tryd.ntmps14
  go_wp2_with fail
  go_loopw [3, 8] (fun out i wr => ∃ k : Nat, k ≤ n ∧ i = .int .i64 k ∧ wr.ownsRow w.heap.size 34 2 out k ((ps.take k).flatMap Pk.cells) ∧ Below w.heap.size w wr) (fun _ i _ => n - (intOf i).toNat)
  case atStart => exact ⟨0, by omega, rfl, World.ownsRow_nil _ _ _ _, Below.refl _ _⟩
  case round =>
    obtain ⟨k, hk, rfl, hown, hbr⟩ := hrel
    by_cases hlt : k < n
    · obtain ⟨p, hp⟩ : ∃ p, ps[k]? = some p := ⟨_, List.getElem?_eq_getElem (by rw [HN.out]; exact hlt)⟩
      have hs1 := hs.step hB hbr
      have hidx := hs1.idx (P := Tryd.prog) (c := c) Tryd.underlying23 pkSz hlt
      obtain ⟨f0, f1⟩ := pk_cells hs1 hlt hp
      have HT := Lib.hid (take_snoc ps k p hp)
      obtain ⟨xs, hxs⟩ : ∃ xs, ps.take k = xs := ⟨_, rfl⟩
      rw [hxs] at hown HT
      have hbs := hbr.size
      clear hp hxs
      go_upto_region 5 with (fail)
      have hb3 : Below w.heap.size w (wr.alloc (.cells #[.int .i64 p.th, .int .i64 p.tm] 33)) := hbr.alloc (by omega) _
      have hpb := Blk.new wr 33 #[.int .i64 p.th, .int .i64 p.tm]
      have hown3 := hown.alloc (.cells #[.int .i64 p.th, .int .i64 p.tm] 33)
      have hsz := hb3.size
      clear hs1 hidx f0 f1 hown hbr
      generalize (wr.alloc (.cells #[.int .i64 p.th, .int .i64 p.tm] 33)) = w3 at *
      have hc3 := hpb.cells
      have hown4 := hown3.alloc (.cells #[.int .i64 p.th, .int .i64 p.tm] 34)
      go_wp2_with (at_builtin; refine wpList_append_lies _ rfl _ _ _ rfl w.heap.size 34 iP _ 2 16 Tryd.underlying26 hiP zP sP bP rfl (by omega) _ k (xs.flatMap Pk.cells) rfl hown4 ⟨w3.heap.size, 0, none⟩ 1 1 (Pk.cells p) rfl rfl (World.news_of_block (heap_alloc_new w3 _)) (Pk.cells_one _) (by omega) (by unfold maxLen; omega) (by omega) (by simp; omega) (w3.heap.size + 1) (by simp) ?_; intro g cap w9 hown9 hgrow hat hlt9)
      have hgrow' : (w3.alloc (.cells #[.int .i64 p.th, .int .i64 p.tm] 34)).grownBy w9 (Value.ownBlock u3) := hgrow
      clear hgrow hat
      go_roundw
      case rel =>
        refine ⟨k + 1, by omega, by go_num, ?_, ?_⟩
        · rw [HT.out]; simpa using hown9
        · exact (hb3.alloc (by omega) _).grown hgrow' (by simp; omega) (fun g0 h0 => (own_at hown3 g0 h0).1)
      case measure => simp [intOf]; omega
    · obtain rfl : k = n := by omega
      have ht : ps.take k = ps := List.take_of_length_le (by rw [HN.out]; omega)
      rw [ht] at hown
      go_wp2_with fail
      go_ret
      exact ⟨_, rfl, hown, hbr⟩

theorem ret_b {a b : Bool} (h : a = b) : Ending.returned (.bool a) = .returned (.bool b) := by rw [h]
def sameTo (ps qs : List Pk) (k : Nat) : Prop := ps.take k = qs.take k

set_option maxRecDepth 100000 in
set_option maxHeartbeats 1600000 in
/-- two lists that are one -/
theorem law_same (A1 A2 : Option Addr) (n c1 c2 B : Nat) (ps : List Pk) (w : World) (hs : Sl w B 2 A1 n (ps.flatMap Pk.cells)) (ht : Sl w B 2 A2 n (ps.flatMap Pk.cells)) (hB : B ≤ w.heap.size) (hn : ps.length = n) (hn' : n ≤ 2000000) :
    Calls Tryd.prog 13 #[.slice A1 n c1, .slice A2 n c2] w fun e w' => e = .returned (.bool true) ∧ Below w.heap.size w w' := by
  have HN := Lib.hid hn
  clear hn
  go_enter Tryd.func13, Tryd.ntmps13
  go_wp2_with fail
  go_loopw [13] (fun i wr => ∃ k : Nat, k ≤ n ∧ i = .int .i64 k ∧ Below w.heap.size w wr) (fun i _ => n - (intOf i).toNat)
  case atStart => exact ⟨0, by omega, rfl, Below.refl _ _⟩
  case round =>
    obtain ⟨k, hk, rfl, hbr⟩ := hrel
    by_cases hlt : k < n
    · obtain ⟨p, hp⟩ : ∃ p, ps[k]? = some p := ⟨_, List.getElem?_eq_getElem (by rw [HN.out]; exact hlt)⟩
      have hs1 := hs.step hB hbr
      have ht1 := ht.step hB hbr
      have hidx := hs1.idx (P := Tryd.prog) (c := c1) Tryd.underlying26 rpkSz hlt
      have hidy := ht1.idx (P := Tryd.prog) (c := c2) Tryd.underlying26 rpkSz hlt
      obtain ⟨f0, f1⟩ := pk_cells hs1 hlt hp
      obtain ⟨g0, g1⟩ := pk_cells ht1 hlt hp
      have hbs := hbr.size
      have hl1 : ablk A1 < wr.heap.size := by have := hs1.blt (by omega); omega
      have hl2 : ablk A2 < wr.heap.size := by have := ht1.blt (by omega); omega
      go_upto_region 6 with (fail)
      have q0 := Later.cell (B := wr.heap.size) f0 hl1
      have q1 := Later.cell (B := wr.heap.size) f1 hl1
      have q2 := Later.cell (B := wr.heap.size) g0 hl2
      have q3 := Later.cell (B := wr.heap.size) g1 hl2
      have hix := fun q : Later wr.heap.size wr => hidx q.val
      have hiy := fun q : Later wr.heap.size wr => hidy q.val
      clear f0 f1 g0 g1 hs1 ht1 hidx hidy hp
      go_wp2_with fail
      refine wp_region_later wr.heap.size (by kernel_rfl) (by kernel_rfl) ?_
      repeat (go_big_quiet_step (fail))
      refine wpQuiet_nil ?_
      intro w6 hq6
      obtain ⟨q6, hq6⟩ := hq6
      have hb6 : Below wr.heap.size wr w6 := by rw [hq6]; exact q6.below
      clear hq6 q6 q0 q1 q2 q3 hix hiy
      go_wp2_with fail
      go_roundw
      case rel => exact ⟨k + 1, by omega, by go_num, hbr.trans (hb6.mono hbs)⟩
      case measure => simp [intOf]; omega
    · go_wp2_with fail
      go_ret
      exact ⟨rfl, hbr⟩
end Go.Proofs.YtiihhpmgfmiacaaDoor
