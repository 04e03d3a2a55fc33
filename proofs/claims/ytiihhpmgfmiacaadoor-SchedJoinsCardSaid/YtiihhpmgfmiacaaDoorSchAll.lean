/- Contract of the iterator that sched's All hands back.
   Conditions: at most 1000 picks. -/
import Derived.Test.YtiihhpmgfmiacaaDoorSchText
import Derived.RangeFuncBox
import Derived.RangeFuncNested
import Derived.RangeFuncBound
import Derived.RangeFuncCalls
import Derived.RangeFuncLeaves
import Derived.Shelf.Abstract
import Derived.Shelf.RegionOpen
import Derived.OwnWalkIn
import Derived.TacticsInMore
import Derived.LoopNIn
import Derived.LoopIn
namespace Go.Proofs.YtiihhpmgfmiacaaDoor
open Go Go.RowKit Go.Shelf
attribute [local go_sem] Oper.semAt_some

/-- who is picked, up to L in all -/
def allFrom : Nat → List Pk → List Int
  | _, [] => []
  | L, p :: r => List.replicate (min p.tm.toNat L) p.th ++ allFrom (L - min p.tm.toNat L) r
def allL (ps : List Pk) : List Int := allFrom 60000 ps
theorem allSize : ∀ (L : Nat) (ps : List Pk), (allFrom L ps).length ≤ L
  | _, [] => by simp [allFrom]
  | L, p :: r => by
    have := allSize (L - min p.tm.toNat L) r
    simp only [allFrom, List.length_append, List.length_replicate]; omega
theorem allMore : ∀ (L : Nat) (a b : List Pk), allFrom L (a ++ b) = allFrom L a ++ allFrom (L - (allFrom L a).length) b
  | _, [], b => by simp [allFrom]
  | L, p :: r, b => by
    simp only [List.cons_append, allFrom, List.length_append, List.length_replicate, List.append_assoc]
    rw [allMore, show L - min p.tm.toNat L - (allFrom (L - min p.tm.toNat L) r).length = L - (min p.tm.toNat L + (allFrom (L - min p.tm.toNat L) r).length) by omega]
theorem allL_snoc (ps : List Pk) (k : Nat) (p : Pk) (h : ps[k]? = some p) : allL (ps.take (k + 1)) = allL (ps.take k) ++ List.replicate (min p.tm.toNat (60000 - (allL (ps.take k)).length)) p.th := by
  rw [take_snoc ps k p h]
  unfold allL
  rw [allMore]
  simp [allFrom]
theorem allL_prefix (ps : List Pk) (k : Nat) : allL (ps.take k) <+: allL ps := by
  have : allL ps = allL (ps.take k ++ ps.drop k) := by rw [List.take_append_drop]
  rw [this]
  unfold allL
  rw [allMore]
  exact List.prefix_append _ _
theorem rep_prefix (j m : Nat) (x : Int) (h : j ≤ m) : List.replicate j x <+: List.replicate m x := by
  rw [show m = j + (m - j) by omega, ← List.replicate_append_replicate]
  exact List.prefix_append _ _

/-- what a round keeps: all below n₀, and the picks' cells -/
structure PkKeep (n₀ : Nat) (W W' : World) : Prop where
  below : Below n₀ W W'
  pick : ∀ (g : Nat) (cs : Array Value), Blk W g 33 cs → Blk W' g 33 cs
theorem PkKeep.trans {n₀ : Nat} {A B C : World} (h : PkKeep n₀ A B) (k : PkKeep n₀ B C) : PkKeep n₀ A C := ⟨h.below.trans k.below, fun g cs hg => k.pick g cs (h.pick g cs hg)⟩

set_option maxRecDepth 100000 in
set_option maxHeartbeats 2000000 in
theorem all1_in (F : Fence) (n : Nat) (h6 : F.fn 30) (hro : F.round = none) (hn : 1 ≤ n) (l Bs n₀ len cap : Nat) (A : Option Addr) (ps : List Pk) (J Jx : List Int → World → Prop)
    (hY : ∀ pre x W, J pre W → pre.length < 60000 → YieldAt F (n - 1) Tryd.prog l #[.int .i64 x] W fun e W' =>
      (e = .returned (.bool true) ∧ J (pre ++ [x]) W' ∧ PkKeep n₀ W W') ∨ (e = .returned (.bool false) ∧ Jx (pre ++ [x]) W'))
    (W : World) (hJa : ∀ s W W' , J s W → W.grownBy W' none → J s W') (hn0 : n₀ ≤ W.heap.size) (hBs : W.cell? ⟨Bs, 0, none⟩ = some (.slice A len cap)) (hs : Sl W n₀ 2 A len (ps.flatMap Pk.cells)) (hel : ps.length = len) (hsm : len ≤ 1000) (h0 : J [] W) :
    CallsIn F n Tryd.prog 30 #[.func (.yield l) #[] #[], .pointer (some ⟨Bs, 0, none⟩)] W fun e W' => (∃ v, e = .returned v) ∧
      ((∃ ys, ys = allL ps ∧ J ys W') ∨ (∃ pre, pre <+: allL ps ∧ Jx pre W')) := by
  have HN := Lib.hid hel
  clear hel
  refine callsIn_of_wp Tryd.func30 rfl h6 ?_ hro
  simp only [Tryd.ntmps30, List.size_toArray, List.length_cons, List.length_nil, Nat.reduceAdd, Nat.reduceSub, Array.replicate_succ, Array.replicate_zero, List.push_toArray, List.append_toArray, List.nil_append, List.cons_append]
  gi_wp2
  gi_loopw [3, 9] (fun lf i wr => ∃ (k : Nat) (pre : List Int), k ≤ len ∧ i = .int .i64 k ∧ lf = .int .i64 ((60000 - pre.length : Nat) : Int) ∧ pre = allL (ps.take k) ∧ J pre wr ∧ Below n₀ W wr)
    (fun _ i _ => len - (intOf i).toNat)
  case atStart => exact ⟨0, [], Nat.zero_le _, rfl, rfl, rfl, h0, Below.refl _ _⟩
  case round =>
    obtain ⟨k, pre, hk, rfl, rfl, hpre, hJs, hbr⟩ := hrel
    have hpl : pre.length ≤ 60000 := by rw [hpre]; exact allSize _ _
    by_cases hlt : k < len
    · obtain ⟨p, hp⟩ : ∃ p, ps[k]? = some p := ⟨_, List.getElem?_eq_getElem (by rw [HN.out]; exact hlt)⟩
      have hs1 := hs.below hbr
      have hidx := hs1.idx (P := Tryd.prog) (c := cap) Tryd.underlying23 pkSz hlt
      obtain ⟨f0, f1⟩ := pk_cells hs1 hlt hp
      have hsn := allL_snoc ps k p hp
      rw [← hpre] at hsn
      have hpf := allL_prefix ps (k + 1)
      have HSN := Lib.hid hsn
      have HPF := Lib.hid hpf
      have hbs := hbr.size
      obtain ⟨L0, hL0⟩ : ∃ L0, 60000 - pre.length = L0 := ⟨_, rfl⟩
      rw [hL0] at hsn ⊢
      have HL0 := Lib.hid hL0
      have hJ2 := hJa pre wr (wr.alloc (.cells #[.int .i64 p.th, .int .i64 p.tm] 33)) hJs (World.grownBy_alloc _ _ none)
      have hb2 : Below n₀ W (wr.alloc (.cells #[.int .i64 p.th, .int .i64 p.tm] 33)) := hbr.alloc (by omega) _
      have hx2 := Blk.new wr 33 #[.int .i64 p.th, .int .i64 p.tm]
      clear hp hpre hsn hpf hJs hL0
      gi_wp2
      have hXl : wr.heap.size < (wr.alloc (.cells #[.int .i64 p.th, .int .i64 p.tm] 33)).heap.size := hx2.lt
      generalize (wr.alloc (.cells #[.int .i64 p.th, .int .i64 p.tm] 33)) = W2 at *
      generalize wr.heap.size = X at *
      obtain ⟨M, hM⟩ : ∃ M, min p.tm (L0 : Int) = M := ⟨_, rfl⟩
      obtain ⟨m, hm⟩ : ∃ m, min p.tm.toNat L0 = m := ⟨_, rfl⟩
      have hMm : M.toNat = m := by omega
      have hmL : m ≤ L0 := by omega
      have hM60 : M ≤ 60000 := by have := HL0.out; omega
      have hL60 : L0 ≤ 60000 := by have := HL0.out; omega
      have hsn : allL (ps.take (k + 1)) = pre ++ List.replicate m p.th := by rw [HSN.out, HL0.out, hm]
      have HSN2 := Lib.hid hsn
      rw [hM]
      clear hsn hM hm HSN f0 f1 hidx hs1
      gi_loopw [3, 6] (fun lf v wr' => ∃ j : Nat, j ≤ m ∧ lf = .int .i64 ((L0 : Int) - (j : Int)) ∧ v = .int .i64 (M - (j : Int)) ∧ J (pre ++ List.replicate j p.th) wr' ∧ Below n₀ W wr' ∧ Blk wr' X 33 #[.int .i64 p.th, .int .i64 p.tm])
        (fun _ v _ => (intOf v).toNat)
      case atStart => exact ⟨0, Nat.zero_le _, by simp, by simp, by simpa using hJ2, hb2, hx2⟩
      case round =>
        obtain ⟨j, hj, rfl, rfl, hJj, hbj, hxj⟩ := hrel
        have hcx := hxj.cells
        by_cases hgo : 0 < M - (j : Int)
        · have dg : decide (0 < M - (j : Int)) = true := by simpa using hgo
          have hlen : (pre ++ List.replicate j p.th).length < 60000 := by have := HL0.out; simp; omega
          obtain ⟨fn, tmps, assign, body, hy, hR⟩ := hY _ p.th wr hJj hlen
          have hj1 : j + 1 ≤ m := by omega
          have hrep : (pre ++ List.replicate j p.th) ++ [p.th] = pre ++ List.replicate (j + 1) p.th := by rw [List.append_assoc, List.replicate_succ', ]
          have HREP := Lib.hid hrep
          clear hrep hlen hJj
          gi_wp2
          refine hR.mono ?_
          rintro e W3 (⟨rfl, hJ3, hk3⟩ | ⟨rfl, hJx3⟩)
          · have hx3 := hk3.pick _ _ hxj
            gi_wp2
            go_roundw
            case rel => exact ⟨j + 1, hj1, by congr 1; omega, by congr 1; omega, by rw [← HREP.out]; exact hJ3, hbj.trans hk3.below, hx3⟩
            case measure => simp [intOf]; omega
          · gi_wp2
            refine bodyPost_ret (results_none rfl _ _ _) rfl ?_
            refine ⟨⟨_, rfl⟩, .inr ⟨_, ?_, hJx3⟩⟩
            rw [HREP.out]
            refine List.IsPrefix.trans ?_ HPF.out
            rw [HSN2.out]
            exact (List.prefix_append_right_inj pre).2 (rep_prefix (j + 1) m p.th hj1)
        · obtain rfl : j = m := by omega
          gi_wp2
          refine ⟨⟨k + 1, pre ++ List.replicate j p.th, by omega, by go_num, ?_, HSN2.out.symm, hJj, hbj⟩, by simp [intOf]; omega⟩
          have := HL0.out
          congr 1
          simp
          omega
    · obtain rfl : k = len := by omega
      have ht : ps.take k = ps := List.take_of_length_le (by rw [HN.out]; omega)
      rw [ht] at hpre
      gi_wp2
      go_end0
      exact ⟨⟨_, rfl⟩, .inl ⟨_, hpre, hJs⟩⟩

set_option maxHeartbeats 1000000 in
/-- All: the picks are boxed, the function value captures the box -/
theorem all_in (F : Fence) (n : Nat) (h5 : F.fn 19) (hro : F.round = none) (A : Option Addr) (len cap : Nat) (w : World) :
    CallsIn F n Tryd.prog 19 #[.slice A len cap] w fun e w' => e = .returned (.func (.func 30) #[] #[.pointer (some ⟨w.heap.size, 0, none⟩)]) ∧ w' = w.alloc (.cells #[.slice A len cap] 23) := by
  refine callsIn_of_wp Tryd.func19 rfl h5 ?_ hro
  simp only [Tryd.ntmps19, List.size_toArray, List.length_cons, List.length_nil, Nat.reduceAdd, Nat.reduceSub, Array.replicate_succ, Array.replicate_zero, List.push_toArray, List.append_toArray, List.nil_append, List.cons_append]
  gi_wp2
  go_ret
  exact ⟨rfl, rfl⟩

theorem all_stops (F : Fence) (n : Nat) (h6 : F.fn 30) (hro : F.round = none) (hn : 1 ≤ n) (Bs n₀ len cap : Nat) (A : Option Addr) (ps : List Pk) (w : World) (hBs : Bs < w.heap.size) (hn0 : n₀ ≤ w.heap.size)
    (hc : w.cell? ⟨Bs, 0, none⟩ = some (.slice A len cap)) (hs : Sl w n₀ 2 A len (ps.flatMap Pk.cells)) (hel : ps.length = len) (hsm : len ≤ 1000) :
    SeqStopsK F n Tryd.prog 30 #[.pointer (some ⟨Bs, 0, none⟩)] (fun x : Int => #[Value.int .i64 x]) (PkKeep n₀) (fun ys => ys = allL ps) (fun pre => pre <+: allL ps) 60000 w := fun l J Jx W hW hJ _ hY h0 => by
  refine all1_in F n h6 hro hn l Bs n₀ len cap A ps J Jx hY W (fun s A B hs hg => hJ s A B none hs hg (fun r e => by cases e)) (by have := hW.size; omega) ((hW.cell (p := ⟨Bs, 0, none⟩) hBs).trans hc) (hs.below (hW.mono hn0)) hel hsm h0
theorem pkKeep_b {n₀ : Nat} {w : World} (hn : n₀ ≤ w.heap.size) (W : World) (l : Nat) (o o' : Obj) (hl : w.heap.size ≤ l) (h : W.heap[l]? = some o) (hc : o.isCells = false) (_ : o.isWalk = false) : PkKeep n₀ W (W.putObj l o') :=
  ⟨belowK_b hn W l o o' hl h hc (by assumption), fun g cs hg => by
    have hne : l ≠ g := fun e => by
      subst e
      unfold Blk at hg
      rw [h] at hg
      injection hg with hg
      subst hg
      cases hc
    have := (grownBy_putObj' W l o').block g (lt_size hg) (fun e => hne (by injection e with e; exact e.symm))
    exact this.trans hg⟩
end Go.Proofs.YtiihhpmgfmiacaaDoor
