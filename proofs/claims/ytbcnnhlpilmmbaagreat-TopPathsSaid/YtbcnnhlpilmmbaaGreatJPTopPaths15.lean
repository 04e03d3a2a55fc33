/- Texts that are wanted for PTopPaths.
   Conditions: none. -/
import Derived.Test.YtbcnnhlpilmmbaaGreatJPTopPaths14
set_option maxRecDepth 100000
set_option maxHeartbeats 6400000
namespace Go.Proofs.YtbcnnhlpilmmbaaGreat
open Go Go.RowKit
def exAct (b Mb : Nat) (word : Int) (v5 v6 v8 v13 : Value) : Act := { tmps := #[.pointer (some ⟨b, 0, none⟩), .pointer (some ⟨Mb, 0, none⟩), undef, undef, .bool false, v5, v6, .pointer (some ⟨b, 0, none⟩), v8, .pointer (some ⟨b, 0, none⟩), .pointer (some ⟨b, 0, none⟩), .pointer (some ⟨b, 12, none⟩), .int .u64 word, v13, undef, undef, undef, undef, undef, undef, undef, undef, undef, undef, undef, undef, undef, undef, undef, undef, undef, undef, undef, undef, undef, undef, undef, undef, undef, undef, undef, undef, undef, undef, undef, undef, undef, undef, undef, undef, undef, undef, undef, undef, undef, undef, undef, undef, undef, undef, undef, undef, undef, undef, undef, undef, undef, undef, undef, undef, undef, undef, undef, undef, undef, undef, undef, undef, undef, undef, undef, undef, undef, undef, undef, undef, undef, undef, undef, undef, undef, undef, undef, undef, undef, undef, undef, undef, undef, undef, undef, undef, undef, undef, undef, undef, undef, undef, undef, undef, undef, undef, undef, undef, undef, undef, undef, undef, undef, undef, undef, undef, undef, undef, undef, undef, undef, undef, undef, undef, undef, undef, undef, undef, undef, undef, undef], defers := [] }
def exLst (c : Nat) (d5 d6 : Bool) : Array Bool := #[true, decide (1 ≤ c), true, true, true, true, decide (2 ≤ c), d5, d6, false, false]
structure ExI (b Mb : Nat) (word : Int) (dvs wvs : Value) (w : World) (r : Nat) (L : Array Bool) (a : Act) (W : World) (c : Nat) (d5 d6 : Bool) (g5 g6 : Nat) (v5 v6 v8 v13 : Value) : Prop where
 hc : c ≤ 2
 hr : r + c + d5.toNat + d6.toNat = 4
 hL : L = exLst c d5 d6
 ha : a = exAct b Mb word v5 v6 v8 v13
 bel : Below w.heap.size w W
 e8 : v8 = if c = 0 then undef else dvs
 e13 : v13 = if c = 2 then wvs else undef
 e5 : v5 = if d5 then .pointer (some ⟨g5, 0, none⟩) else undef
 e6 : v6 = if d6 then .pointer (some ⟨g6, 0, none⟩) else undef
 b5 : d5 = true → w.heap.size ≤ g5 ∧ Blk W g5 161 #[.int .i64 0, .int .i64 0, .int .i64 0, .int .i64 0, .bool false, .int .i64 0, .int .i64 0]
 b6 : d6 = true → w.heap.size ≤ g6 ∧ Blk W g6 198 #[.int .i64 0, .int .i64 0, .bool false, .int .i64 0, .int .i64 0]
theorem net_edges {R R' : List Nat} {F : Nat → Prop} (h : R = R') (hne : R' ≠ []) (hF : ∀ i ∈ R', F i) : R ≠ [] ∧ ∀ i ∈ R, F i := by subst h; exact ⟨hne, hF⟩
theorem ExI.step {b Mb : Nat} {word : Int} {dvs wvs : Value} {w : World} {r : Nat} {L : Array Bool} {a : Act} {W W' : World} {c : Nat} {d5 d6 : Bool} {g5 g6 : Nat} {v5 v6 v8 v13 : Value} (h : ExI b Mb word dvs wvs w r L a W c d5 d6 g5 g6 v5 v6 v8 v13) (k : Below W.heap.size W W') :
  Below w.heap.size w W' ∧ (d5 = true → w.heap.size ≤ g5 ∧ Blk W' g5 161 #[.int .i64 0, .int .i64 0, .int .i64 0, .int .i64 0, .bool false, .int .i64 0, .int .i64 0]) ∧ (d6 = true → w.heap.size ≤ g6 ∧ Blk W' g6 198 #[.int .i64 0, .int .i64 0, .bool false, .int .i64 0, .int .i64 0]) :=
 ⟨h.bel.trans (k.mono h.bel.size), fun e => ⟨(h.b5 e).1, (h.b5 e).2.step k⟩, fun e => ⟨(h.b6 e).1, (h.b6 e).2.step k⟩⟩
theorem exec_Step {w : World} {C : Nat → Nat} {c b : Nat} {M : ML} {m : Mm} {x : ExS} (hm : MemAt w C M m) (h : ExAt w C c b M.L x) (hat : 0 ≤ x.at_ ∧ x.at_ ≤ 9) : Calls Tryz.prog 146 #[.pointer (some ⟨b, 0, none⟩), .pointer (some ⟨M.b, 0, none⟩)] w (ExW C c b M (stepEx M m x) w) := by
 obtain ⟨popped, gave, u, ⟨sh, kind, key⟩, att, at_, found, word⟩ := x
 obtain ⟨sb, hfd, hwd, hu, hpop⟩ := h
 simp only at sb hfd hwd hu hpop hat
 have HD := fun (W : World) (k : SB W C c b 224 #[.int .i64 M.L.th, .int .i64 M.L.nd, .int .i64 popped, .int .i64 gave, .int .i64 u, .int .i64 sh, .int .i64 kind, .int .i64 key, .bool true, .int .i64 att, .int .i64 at_, .int .u64 found, .int .u64 word]) => exec_desc (x := (⟨popped, gave, u, ⟨sh, kind, key⟩, att, at_, found, word⟩ : ExS)) ⟨k, hfd, hwd, hu, hpop⟩
 have HG := fun W => word_Get word W hwd
 have hdf := getD_fit found
 have hwf := getW_fit word
 obtain ⟨D, hD⟩ : ∃ D, getD' found = D := ⟨_, rfl⟩
 obtain ⟨W0, hW0⟩ : ∃ W0, getW word = W0 := ⟨_, rfl⟩
 simp only [hD] at HD hdf
 rw [hW0] at HG hwf
 have HDD := Lib.hid hD
 have HWW := Lib.hid hW0
 clear hD hW0
 obtain ⟨da, dd, dv, dn, dm, ds, dl⟩ := D
 obtain ⟨k1, k2, k3, k4, k5⟩ := W0
 simp only [Wd.val, Ds.vals] at HD HG
 go_enter Tryz.func146, Tryz.ntmps146
 have hc := sb.blk.cells
 go_wp2_with fail
 clear hc
 refine wp_region_net (fun w' => ∃ q : Such (S1 b #[.int .i64 M.L.th, .int .i64 M.L.nd, .int .i64 popped, .int .i64 gave, .int .i64 u, .int .i64 sh, .int .i64 kind, .int .i64 key, .bool true, .int .i64 att, .int .i64 at_, .int .u64 found, .int .u64 word]), w' = q.val) 9 [0, 2, 3, 4, 5] 4 [9, 10] (fun r L a W => ∃ c d5 d6 g5 g6 v5 v6 v8 v13, ExI b M.b word (.agg #[.int .i64 da, .int .i64 dd, .int .i64 dv, .int .i64 dn, .bool dm, .int .i64 ds, .int .i64 dl]) (.agg #[.int .i64 k1, .int .i64 k2, .bool k3, .int .i64 k4, .int .i64 k5]) w r L a W c d5 d6 g5 g6 v5 v6 v8 v13) (by kernel_rfl) (by kernel_rfl) (Such.mk_ (S := S1 b #[.int .i64 M.L.th, .int .i64 M.L.nd, .int .i64 popped, .int .i64 gave, .int .i64 u, .int .i64 sh, .int .i64 kind, .int .i64 key, .bool true, .int .i64 att, .int .i64 at_, .int .u64 found, .int .u64 word]) sb.drew.blk.cells) ?_ ?_ ?_
 ·have q1 : ∀ (q : Such (S1 b #[.int .i64 M.L.th, .int .i64 M.L.nd, .int .i64 popped, .int .i64 gave, .int .i64 u, .int .i64 sh, .int .i64 kind, .int .i64 key, .bool true, .int .i64 att, .int .i64 at_, .int .u64 found, .int .u64 word])) (i : Nat), q.val.cell? ⟨b, i, none⟩ = (#[.int .i64 M.L.th, .int .i64 M.L.nd, .int .i64 popped, .int .i64 gave, .int .i64 u, .int .i64 sh, .int .i64 kind, .int .i64 key, .bool true, .int .i64 att, .int .i64 at_, .int .u64 found, .int .u64 word])[i]? := s1_cells
  haveI qi : Nonempty (Such (S1 b #[.int .i64 M.L.th, .int .i64 M.L.nd, .int .i64 popped, .int .i64 gave, .int .i64 u, .int .i64 sh, .int .i64 kind, .int .i64 key, .bool true, .int .i64 att, .int .i64 at_, .int .u64 found, .int .u64 word])) := Such.ne_ sb.blk.cells
  simp only [opsAt, List.map_cons, List.map_nil, List.getD_cons_zero, List.getD_cons_succ]
  repeat (go_big_quiet_step (fail))
  refine wpQuiet_nil ?_
  exact ⟨0, false, false, 0, 0, undef, undef, undef, undef, by omega, rfl, by kernel_rfl, rfl, (Below.refl _ _).drew, rfl, rfl, rfl, rfl, (fun h => by cases h), (fun h => by cases h)⟩
 ·rintro r L a W ⟨c0, d5, d6, g5, g6, v5, v6, v8, v13, hI⟩
  have hIc := hI.hc
  have hIr := hI.hr
  have hsW := sb.step hI.bel
  obtain ⟨-, -, rfl, rfl, -, rfl, rfl, rfl, rfl, -, -⟩ := id hI
  rcases (by omega : c0 = 0 ∨ c0 = 1 ∨ c0 = 2) with rfl | rfl | rfl <;> cases d5 <;> cases d6 <;> simp only [Bool.toNat_true, Bool.toNat_false] at hIr
  ·have hr : r = 3 := by omega
   subst hr
   refine net_edges (R' := [1, 7, 8]) (by kernel_rfl) (by decide) ?_
   intro i hi
   simp only [List.mem_cons, List.not_mem_nil, or_false] at hi
   rcases hi with rfl | rfl | rfl
   ·refine wpOp_go rfl (fun K' hK' => ?_)
    simp only [exAct, if_true]
    go_simp
    refine (HD _ hsW).mono ?_
    rintro e W2 ⟨rfl, hb⟩
    obtain ⟨j1, j2, j3⟩ := hI.step hb
    exact hK' _ _ ⟨Such.mk_ (S := S1 b #[.int .i64 M.L.th, .int .i64 M.L.nd, .int .i64 popped, .int .i64 gave, .int .i64 u, .int .i64 sh, .int .i64 kind, .int .i64 key, .bool true, .int .i64 att, .int .i64 at_, .int .u64 found, .int .u64 word]) (hsW.step hb).blk.cells, 1, false, false, g5, g6, _, _, _, _, by omega, by rfl, by kernel_rfl, by kernel_rfl, j1, rfl, rfl, rfl, rfl, j2, j3⟩
   ·refine wpOp_go rfl (fun K' hK' => ?_)
    simp only [exAct, if_true]
    go_simp
    obtain ⟨j1, j2, j3⟩ := hI.step ((Below.refl _ _).alloc (Nat.le_refl _) (.cells #[.int .i64 0, .int .i64 0, .int .i64 0, .int .i64 0, .bool false, .int .i64 0, .int .i64 0] 161))
    exact hK' _ _ ⟨Such.mk_ (S := S1 b #[.int .i64 M.L.th, .int .i64 M.L.nd, .int .i64 popped, .int .i64 gave, .int .i64 u, .int .i64 sh, .int .i64 kind, .int .i64 key, .bool true, .int .i64 att, .int .i64 at_, .int .u64 found, .int .u64 word]) (hsW.alloc _).blk.cells, 0, true, false, W.heap.size, g6, _, _, _, _, by omega, by rfl, by kernel_rfl, by kernel_rfl, j1, rfl, rfl, rfl, rfl, fun _ => ⟨hI.bel.size, Blk.new W _ _⟩, j3⟩
   ·refine wpOp_go rfl (fun K' hK' => ?_)
    simp only [exAct, if_true]
    go_simp
    obtain ⟨j1, j2, j3⟩ := hI.step ((Below.refl _ _).alloc (Nat.le_refl _) (.cells #[.int .i64 0, .int .i64 0, .bool false, .int .i64 0, .int .i64 0] 198))
    exact hK' _ _ ⟨Such.mk_ (S := S1 b #[.int .i64 M.L.th, .int .i64 M.L.nd, .int .i64 popped, .int .i64 gave, .int .i64 u, .int .i64 sh, .int .i64 kind, .int .i64 key, .bool true, .int .i64 att, .int .i64 at_, .int .u64 found, .int .u64 word]) (hsW.alloc _).blk.cells, 0, false, true, g5, W.heap.size, _, _, _, _, by omega, by rfl, by kernel_rfl, by kernel_rfl, j1, rfl, rfl, rfl, rfl, j2, fun _ => ⟨hI.bel.size, Blk.new W _ _⟩⟩
  ·have hr : r = 2 := by omega
   subst hr
   refine net_edges (R' := [1, 7]) (by kernel_rfl) (by decide) ?_
   intro i hi
   simp only [List.mem_cons, List.not_mem_nil, or_false] at hi
   rcases hi with rfl | rfl
   ·refine wpOp_go rfl (fun K' hK' => ?_)
    simp only [exAct, if_true]
    go_simp
    refine (HD _ hsW).mono ?_
    rintro e W2 ⟨rfl, hb⟩
    obtain ⟨j1, j2, j3⟩ := hI.step hb
    exact hK' _ _ ⟨Such.mk_ (S := S1 b #[.int .i64 M.L.th, .int .i64 M.L.nd, .int .i64 popped, .int .i64 gave, .int .i64 u, .int .i64 sh, .int .i64 kind, .int .i64 key, .bool true, .int .i64 att, .int .i64 at_, .int .u64 found, .int .u64 word]) (hsW.step hb).blk.cells, 1, false, true, g5, g6, _, _, _, _, by omega, by rfl, by kernel_rfl, by kernel_rfl, j1, rfl, rfl, rfl, rfl, j2, j3⟩
   ·refine wpOp_go rfl (fun K' hK' => ?_)
    simp only [exAct, if_true]
    go_simp
    obtain ⟨j1, j2, j3⟩ := hI.step ((Below.refl _ _).alloc (Nat.le_refl _) (.cells #[.int .i64 0, .int .i64 0, .int .i64 0, .int .i64 0, .bool false, .int .i64 0, .int .i64 0] 161))
    exact hK' _ _ ⟨Such.mk_ (S := S1 b #[.int .i64 M.L.th, .int .i64 M.L.nd, .int .i64 popped, .int .i64 gave, .int .i64 u, .int .i64 sh, .int .i64 kind, .int .i64 key, .bool true, .int .i64 att, .int .i64 at_, .int .u64 found, .int .u64 word]) (hsW.alloc _).blk.cells, 0, true, true, W.heap.size, g6, _, _, _, _, by omega, by rfl, by kernel_rfl, by kernel_rfl, j1, rfl, rfl, rfl, rfl, fun _ => ⟨hI.bel.size, Blk.new W _ _⟩, j3⟩
  ·have hr : r = 2 := by omega
   subst hr
   refine net_edges (R' := [1, 8]) (by kernel_rfl) (by decide) ?_
   intro i hi
   simp only [List.mem_cons, List.not_mem_nil, or_false] at hi
   rcases hi with rfl | rfl
   ·refine wpOp_go rfl (fun K' hK' => ?_)
    simp only [exAct, if_true]
    go_simp
    refine (HD _ hsW).mono ?_
    rintro e W2 ⟨rfl, hb⟩
    obtain ⟨j1, j2, j3⟩ := hI.step hb
    exact hK' _ _ ⟨Such.mk_ (S := S1 b #[.int .i64 M.L.th, .int .i64 M.L.nd, .int .i64 popped, .int .i64 gave, .int .i64 u, .int .i64 sh, .int .i64 kind, .int .i64 key, .bool true, .int .i64 att, .int .i64 at_, .int .u64 found, .int .u64 word]) (hsW.step hb).blk.cells, 1, true, false, g5, g6, _, _, _, _, by omega, by rfl, by kernel_rfl, by kernel_rfl, j1, rfl, rfl, rfl, rfl, j2, j3⟩
   ·refine wpOp_go rfl (fun K' hK' => ?_)
    simp only [exAct, if_true]
    go_simp
    obtain ⟨j1, j2, j3⟩ := hI.step ((Below.refl _ _).alloc (Nat.le_refl _) (.cells #[.int .i64 0, .int .i64 0, .bool false, .int .i64 0, .int .i64 0] 198))
    exact hK' _ _ ⟨Such.mk_ (S := S1 b #[.int .i64 M.L.th, .int .i64 M.L.nd, .int .i64 popped, .int .i64 gave, .int .i64 u, .int .i64 sh, .int .i64 kind, .int .i64 key, .bool true, .int .i64 att, .int .i64 at_, .int .u64 found, .int .u64 word]) (hsW.alloc _).blk.cells, 0, true, true, g5, W.heap.size, _, _, _, _, by omega, by rfl, by kernel_rfl, by kernel_rfl, j1, rfl, rfl, rfl, rfl, j2, fun _ => ⟨hI.bel.size, Blk.new W _ _⟩⟩
  ·have hr : r = 1 := by omega
   subst hr
   refine net_edges (R' := [1]) (by kernel_rfl) (by decide) ?_
   intro i hi
   simp only [List.mem_cons, List.not_mem_nil, or_false] at hi
   rcases hi with rfl
   ·refine wpOp_go rfl (fun K' hK' => ?_)
    simp only [exAct, if_true]
    go_simp
    refine (HD _ hsW).mono ?_
    rintro e W2 ⟨rfl, hb⟩
    obtain ⟨j1, j2, j3⟩ := hI.step hb
    exact hK' _ _ ⟨Such.mk_ (S := S1 b #[.int .i64 M.L.th, .int .i64 M.L.nd, .int .i64 popped, .int .i64 gave, .int .i64 u, .int .i64 sh, .int .i64 kind, .int .i64 key, .bool true, .int .i64 att, .int .i64 at_, .int .u64 found, .int .u64 word]) (hsW.step hb).blk.cells, 1, true, true, g5, g6, _, _, _, _, by omega, by rfl, by kernel_rfl, by kernel_rfl, j1, rfl, rfl, rfl, rfl, j2, j3⟩
  ·have hr : r = 2 := by omega
   subst hr
   refine net_edges (R' := [6, 7, 8]) (by kernel_rfl) (by decide) ?_
   intro i hi
   simp only [List.mem_cons, List.not_mem_nil, or_false] at hi
   rcases hi with rfl | rfl | rfl
   ·refine wpOp_go rfl (fun K' hK' => ?_)
    simp only [exAct]
    go_simp
    refine (HG _).mono ?_
    rintro e W2 ⟨rfl, hb⟩
    obtain ⟨j1, j2, j3⟩ := hI.step hb
    exact hK' _ _ ⟨Such.mk_ (S := S1 b #[.int .i64 M.L.th, .int .i64 M.L.nd, .int .i64 popped, .int .i64 gave, .int .i64 u, .int .i64 sh, .int .i64 kind, .int .i64 key, .bool true, .int .i64 att, .int .i64 at_, .int .u64 found, .int .u64 word]) (hsW.step hb).blk.cells, 2, false, false, g5, g6, _, _, _, _, by omega, by rfl, by kernel_rfl, by kernel_rfl, j1, rfl, rfl, rfl, rfl, j2, j3⟩
   ·refine wpOp_go rfl (fun K' hK' => ?_)
    simp only [exAct]
    go_simp
    obtain ⟨j1, j2, j3⟩ := hI.step ((Below.refl _ _).alloc (Nat.le_refl _) (.cells #[.int .i64 0, .int .i64 0, .int .i64 0, .int .i64 0, .bool false, .int .i64 0, .int .i64 0] 161))
    exact hK' _ _ ⟨Such.mk_ (S := S1 b #[.int .i64 M.L.th, .int .i64 M.L.nd, .int .i64 popped, .int .i64 gave, .int .i64 u, .int .i64 sh, .int .i64 kind, .int .i64 key, .bool true, .int .i64 att, .int .i64 at_, .int .u64 found, .int .u64 word]) (hsW.alloc _).blk.cells, 1, true, false, W.heap.size, g6, _, _, _, _, by omega, by rfl, by kernel_rfl, by kernel_rfl, j1, rfl, rfl, rfl, rfl, fun _ => ⟨hI.bel.size, Blk.new W _ _⟩, j3⟩
   ·refine wpOp_go rfl (fun K' hK' => ?_)
    simp only [exAct]
    go_simp
    obtain ⟨j1, j2, j3⟩ := hI.step ((Below.refl _ _).alloc (Nat.le_refl _) (.cells #[.int .i64 0, .int .i64 0, .bool false, .int .i64 0, .int .i64 0] 198))
    exact hK' _ _ ⟨Such.mk_ (S := S1 b #[.int .i64 M.L.th, .int .i64 M.L.nd, .int .i64 popped, .int .i64 gave, .int .i64 u, .int .i64 sh, .int .i64 kind, .int .i64 key, .bool true, .int .i64 att, .int .i64 at_, .int .u64 found, .int .u64 word]) (hsW.alloc _).blk.cells, 1, false, true, g5, W.heap.size, _, _, _, _, by omega, by rfl, by kernel_rfl, by kernel_rfl, j1, rfl, rfl, rfl, rfl, j2, fun _ => ⟨hI.bel.size, Blk.new W _ _⟩⟩
  ·have hr : r = 1 := by omega
   subst hr
   refine net_edges (R' := [6, 7]) (by kernel_rfl) (by decide) ?_
   intro i hi
   simp only [List.mem_cons, List.not_mem_nil, or_false] at hi
   rcases hi with rfl | rfl
   ·refine wpOp_go rfl (fun K' hK' => ?_)
    simp only [exAct, if_true]
    go_simp
    refine (HG _).mono ?_
    rintro e W2 ⟨rfl, hb⟩
    obtain ⟨j1, j2, j3⟩ := hI.step hb
    exact hK' _ _ ⟨Such.mk_ (S := S1 b #[.int .i64 M.L.th, .int .i64 M.L.nd, .int .i64 popped, .int .i64 gave, .int .i64 u, .int .i64 sh, .int .i64 kind, .int .i64 key, .bool true, .int .i64 att, .int .i64 at_, .int .u64 found, .int .u64 word]) (hsW.step hb).blk.cells, 2, false, true, g5, g6, _, _, _, _, by omega, by rfl, by kernel_rfl, by kernel_rfl, j1, rfl, rfl, rfl, rfl, j2, j3⟩
   ·refine wpOp_go rfl (fun K' hK' => ?_)
    simp only [exAct, if_true]
    go_simp
    obtain ⟨j1, j2, j3⟩ := hI.step ((Below.refl _ _).alloc (Nat.le_refl _) (.cells #[.int .i64 0, .int .i64 0, .int .i64 0, .int .i64 0, .bool false, .int .i64 0, .int .i64 0] 161))
    exact hK' _ _ ⟨Such.mk_ (S := S1 b #[.int .i64 M.L.th, .int .i64 M.L.nd, .int .i64 popped, .int .i64 gave, .int .i64 u, .int .i64 sh, .int .i64 kind, .int .i64 key, .bool true, .int .i64 att, .int .i64 at_, .int .u64 found, .int .u64 word]) (hsW.alloc _).blk.cells, 1, true, true, W.heap.size, g6, _, _, _, _, by omega, by rfl, by kernel_rfl, by kernel_rfl, j1, rfl, rfl, rfl, rfl, fun _ => ⟨hI.bel.size, Blk.new W _ _⟩, j3⟩
  ·have hr : r = 1 := by omega
   subst hr
   refine net_edges (R' := [6, 8]) (by kernel_rfl) (by decide) ?_
   intro i hi
   simp only [List.mem_cons, List.not_mem_nil, or_false] at hi
   rcases hi with rfl | rfl
   ·refine wpOp_go rfl (fun K' hK' => ?_)
    simp only [exAct, if_true]
    go_simp
    refine (HG _).mono ?_
    rintro e W2 ⟨rfl, hb⟩
    obtain ⟨j1, j2, j3⟩ := hI.step hb
    exact hK' _ _ ⟨Such.mk_ (S := S1 b #[.int .i64 M.L.th, .int .i64 M.L.nd, .int .i64 popped, .int .i64 gave, .int .i64 u, .int .i64 sh, .int .i64 kind, .int .i64 key, .bool true, .int .i64 att, .int .i64 at_, .int .u64 found, .int .u64 word]) (hsW.step hb).blk.cells, 2, true, false, g5, g6, _, _, _, _, by omega, by rfl, by kernel_rfl, by kernel_rfl, j1, rfl, rfl, rfl, rfl, j2, j3⟩
   ·refine wpOp_go rfl (fun K' hK' => ?_)
    simp only [exAct, if_true]
    go_simp
    obtain ⟨j1, j2, j3⟩ := hI.step ((Below.refl _ _).alloc (Nat.le_refl _) (.cells #[.int .i64 0, .int .i64 0, .bool false, .int .i64 0, .int .i64 0] 198))
    exact hK' _ _ ⟨Such.mk_ (S := S1 b #[.int .i64 M.L.th, .int .i64 M.L.nd, .int .i64 popped, .int .i64 gave, .int .i64 u, .int .i64 sh, .int .i64 kind, .int .i64 key, .bool true, .int .i64 att, .int .i64 at_, .int .u64 found, .int .u64 word]) (hsW.alloc _).blk.cells, 1, true, true, g5, W.heap.size, _, _, _, _, by omega, by rfl, by kernel_rfl, by kernel_rfl, j1, rfl, rfl, rfl, rfl, j2, fun _ => ⟨hI.bel.size, Blk.new W _ _⟩⟩
  ·have hr : r = 0 := by omega
   subst hr
   refine net_edges (R' := [6]) (by kernel_rfl) (by decide) ?_
   intro i hi
   simp only [List.mem_cons, List.not_mem_nil, or_false] at hi
   rcases hi with rfl
   ·refine wpOp_go rfl (fun K' hK' => ?_)
    simp only [exAct, if_true]
    go_simp
    refine (HG _).mono ?_
    rintro e W2 ⟨rfl, hb⟩
    obtain ⟨j1, j2, j3⟩ := hI.step hb
    exact hK' _ _ ⟨Such.mk_ (S := S1 b #[.int .i64 M.L.th, .int .i64 M.L.nd, .int .i64 popped, .int .i64 gave, .int .i64 u, .int .i64 sh, .int .i64 kind, .int .i64 key, .bool true, .int .i64 att, .int .i64 at_, .int .u64 found, .int .u64 word]) (hsW.step hb).blk.cells, 2, true, true, g5, g6, _, _, _, _, by omega, by rfl, by kernel_rfl, by kernel_rfl, j1, rfl, rfl, rfl, rfl, j2, j3⟩
  ·have hr : r = 1 := by omega
   subst hr
   refine net_edges (R' := [7, 8]) (by kernel_rfl) (by decide) ?_
   intro i hi
   simp only [List.mem_cons, List.not_mem_nil, or_false] at hi
   rcases hi with rfl | rfl
   ·refine wpOp_go rfl (fun K' hK' => ?_)
    simp only [exAct, if_true]
    go_simp
    obtain ⟨j1, j2, j3⟩ := hI.step ((Below.refl _ _).alloc (Nat.le_refl _) (.cells #[.int .i64 0, .int .i64 0, .int .i64 0, .int .i64 0, .bool false, .int .i64 0, .int .i64 0] 161))
    exact hK' _ _ ⟨Such.mk_ (S := S1 b #[.int .i64 M.L.th, .int .i64 M.L.nd, .int .i64 popped, .int .i64 gave, .int .i64 u, .int .i64 sh, .int .i64 kind, .int .i64 key, .bool true, .int .i64 att, .int .i64 at_, .int .u64 found, .int .u64 word]) (hsW.alloc _).blk.cells, 2, true, false, W.heap.size, g6, _, _, _, _, by omega, by rfl, by kernel_rfl, by kernel_rfl, j1, rfl, rfl, rfl, rfl, fun _ => ⟨hI.bel.size, Blk.new W _ _⟩, j3⟩
   ·refine wpOp_go rfl (fun K' hK' => ?_)
    simp only [exAct, if_true]
    go_simp
    obtain ⟨j1, j2, j3⟩ := hI.step ((Below.refl _ _).alloc (Nat.le_refl _) (.cells #[.int .i64 0, .int .i64 0, .bool false, .int .i64 0, .int .i64 0] 198))
    exact hK' _ _ ⟨Such.mk_ (S := S1 b #[.int .i64 M.L.th, .int .i64 M.L.nd, .int .i64 popped, .int .i64 gave, .int .i64 u, .int .i64 sh, .int .i64 kind, .int .i64 key, .bool true, .int .i64 att, .int .i64 at_, .int .u64 found, .int .u64 word]) (hsW.alloc _).blk.cells, 2, false, true, g5, W.heap.size, _, _, _, _, by omega, by rfl, by kernel_rfl, by kernel_rfl, j1, rfl, rfl, rfl, rfl, j2, fun _ => ⟨hI.bel.size, Blk.new W _ _⟩⟩
  ·have hr : r = 0 := by omega
   subst hr
   refine net_edges (R' := [7]) (by kernel_rfl) (by decide) ?_
   intro i hi
   simp only [List.mem_cons, List.not_mem_nil, or_false] at hi
   rcases hi with rfl
   ·refine wpOp_go rfl (fun K' hK' => ?_)
    simp only [exAct, if_true]
    go_simp
    obtain ⟨j1, j2, j3⟩ := hI.step ((Below.refl _ _).alloc (Nat.le_refl _) (.cells #[.int .i64 0, .int .i64 0, .int .i64 0, .int .i64 0, .bool false, .int .i64 0, .int .i64 0] 161))
    exact hK' _ _ ⟨Such.mk_ (S := S1 b #[.int .i64 M.L.th, .int .i64 M.L.nd, .int .i64 popped, .int .i64 gave, .int .i64 u, .int .i64 sh, .int .i64 kind, .int .i64 key, .bool true, .int .i64 att, .int .i64 at_, .int .u64 found, .int .u64 word]) (hsW.alloc _).blk.cells, 2, true, true, W.heap.size, g6, _, _, _, _, by omega, by rfl, by kernel_rfl, by kernel_rfl, j1, rfl, rfl, rfl, rfl, fun _ => ⟨hI.bel.size, Blk.new W _ _⟩, j3⟩
  ·have hr : r = 0 := by omega
   subst hr
   refine net_edges (R' := [8]) (by kernel_rfl) (by decide) ?_
   intro i hi
   simp only [List.mem_cons, List.not_mem_nil, or_false] at hi
   rcases hi with rfl
   ·refine wpOp_go rfl (fun K' hK' => ?_)
    simp only [exAct, if_true]
    go_simp
    obtain ⟨j1, j2, j3⟩ := hI.step ((Below.refl _ _).alloc (Nat.le_refl _) (.cells #[.int .i64 0, .int .i64 0, .bool false, .int .i64 0, .int .i64 0] 198))
    exact hK' _ _ ⟨Such.mk_ (S := S1 b #[.int .i64 M.L.th, .int .i64 M.L.nd, .int .i64 popped, .int .i64 gave, .int .i64 u, .int .i64 sh, .int .i64 kind, .int .i64 key, .bool true, .int .i64 att, .int .i64 at_, .int .u64 found, .int .u64 word]) (hsW.alloc _).blk.cells, 2, true, true, g5, W.heap.size, _, _, _, _, by omega, by rfl, by kernel_rfl, by kernel_rfl, j1, rfl, rfl, rfl, rfl, j2, fun _ => ⟨hI.bel.size, Blk.new W _ _⟩⟩
  ·omega
 ·rintro L a W ⟨c0, d5, d6, g5, g6, v5, v6, v8, v13, hI⟩
  have hIr := hI.hr
  have hIc := hI.hc
  have h5 : d5 = true := by cases d5 <;> cases d6 <;> simp only [Bool.toNat_true, Bool.toNat_false] at hIr <;> first | rfl | omega
  have h6 : d6 = true := by cases d5 <;> cases d6 <;> simp only [Bool.toNat_true, Bool.toNat_false] at hIr <;> first | rfl | omega
  subst h5 h6
  have h2 : c0 = 2 := by simp only [Bool.toNat_true] at hIr; omega
  subst h2
  obtain ⟨hg5, hk5⟩ := hI.b5 rfl
  obtain ⟨hg6, hk6⟩ := hI.b6 rfl
  have hbW := hI.bel
  obtain ⟨-, -, rfl, rfl, -, rfl, rfl, rfl, rfl, -, -⟩ := hI
  refine ⟨by kernel_rfl, ?_⟩
  refine wpTail_late _ _ _ (by kernel_rfl) ?_
  try simp only [opsAt, List.map_cons, List.map_nil, List.getD_cons_zero, List.getD_cons_succ]
  simp only [exAct, if_true]
  replace sb := sb.step hbW
  replace hm := hm.step hbW
  have fr : Fr C (Kc c) LEx w W := Fr.of_below hbW _ _ _
  have ag := Agr.refl w.heap.size C
  have nd : SB W C (C g5) g5 161 #[.int .i64 0, .int .i64 0, .int .i64 0, .int .i64 0, .bool false, .int .i64 0, .int .i64 0] := SB.mk hk5 rfl
  have nw : SB W C (C g6) g6 198 #[.int .i64 0, .int .i64 0, .bool false, .int .i64 0, .int .i64 0] := SB.mk hk6 rfl
  clear hk5 hk6 hbW
  have z1 := And.intro sb (And.intro nd nw)
  have hR := stR
  revert nw; revert hm; revert sb; revert fr; refine stsn nd [(0, .int .i64 da), (1, .int .i64 dd), (2, .int .i64 dv), (3, .int .i64 dn), (4, .bool dm), (5, .int .i64 ds), (6, .int .i64 dl)] ?_; clear nd; rintro w1 e1 fr nd sb hm nw
  simp only [stx, sx] at e1 nd
  have z2 := And.intro sb (And.intro nd nw)
  revert fr sb hm nd; refine stsn nw [(0, .int .i64 k1), (1, .int .i64 k2), (2, .bool k3), (3, .int .i64 k4), (4, .int .i64 k5)] ?_; clear nw; rintro w2 e2 fr nw sb hm nd
  simp only [stx, sx] at e2 nw
  go_wp2_with fail
  clear z1 e1 hR z2 e2
  refine NoPanic.normal ?_
  rcases (by omega : at_ = 0 ∨ at_ = 1 ∨ at_ = 2 ∨ at_ = 3 ∨ at_ = 4 ∨ at_ = 5 ∨ at_ = 6 ∨ at_ = 7 ∨ at_ = 8 ∨ at_ = 9) with rfl | rfl | rfl | rfl | rfl | rfl | rfl | rfl | rfl | rfl
  ·skip
   have HST : Hid (stepEx M m (⟨popped, gave, u, ⟨sh, kind, key⟩, att, 0, found, word⟩ : ExS) = (((⟨popped, gave, u, ⟨sh, kind, key⟩, att, 0, found, word⟩ : ExS).load (ld M m (M.L.desc u))).1, m, ((⟨popped, gave, u, ⟨sh, kind, key⟩, att, 0, found, word⟩ : ExS).load (ld M m (M.L.desc u))).2)) := Lib.hid rfl
   go_wp2_with fail
   refine (exec_load hm (x := (⟨popped, gave, u, ⟨sh, kind, key⟩, att, 0, found, word⟩ : ExS)) ⟨sb, hfd, hwd, hu, hpop⟩).mono ?_
   rintro e w9 ⟨rfl, hm9, own, hf⟩
   replace fr := fr.trans hf ag
   replace hm := hm9
   clear hm9
   go_wp2_with fail
   go_ret
   exact ⟨by rw [HST.out]; rfl, by rw [HST.out]; exact hm, by rw [HST.out]; exact own, fr⟩
  ·skip
   have HST : Hid (stepEx M m (⟨popped, gave, u, ⟨sh, kind, key⟩, att, 1, found, word⟩ : ExS) = (false, m, (⟨popped, gave, u, ⟨sh, kind, key⟩, att, 1, found, word⟩ : ExS).look (ld M m (getD' found).addr) 2 3 4)) := Lib.hid rfl
   go_wp2_with fail
   refine (exec_look hm (x := (⟨popped, gave, u, ⟨sh, kind, key⟩, att, 1, found, word⟩ : ExS)) ⟨sb, hfd, hwd, hu, hpop⟩ 2 3 4).mono ?_
   rintro e w9 ⟨rfl, hm9, own, hf⟩
   replace fr := fr.trans hf ag
   replace hm := hm9
   clear hm9
   go_wp2_with fail
   go_ret
   exact ⟨by rw [HST.out]; rfl, by rw [HST.out]; exact hm, by rw [HST.out]; exact own, fr⟩
  ·skip
   have HMK := fun W => (show Calls Tryz.prog 166 #[.agg #[.int .i64 k1, .int .i64 k2, .bool k3, .int .i64 k4, .int .i64 k5], .int .i64 u, .int .i64 dn, .bool dm] W _ from word_Claimed (⟨k1, k2, k3, k4, k5⟩ : Wd) u dn dm W (by omega))
   obtain ⟨W2, hW2⟩ : ∃ W2, (⟨k1, k2, k3, k4, k5⟩ : Wd).claimed u dn dm = W2 := ⟨_, rfl⟩
   simp only [hW2] at HMK
   have HPU := fun W (h1 : MemAt W C M m) (h2 : SB W C c b 224 #[.int .i64 M.L.th, .int .i64 M.L.nd, .int .i64 popped, .int .i64 gave, .int .i64 u, .int .i64 sh, .int .i64 kind, .int .i64 key, .bool true, .int .i64 att, .int .i64 2, .int .u64 found, .int .u64 word]) => exec_put h1 (x := (⟨popped, gave, u, ⟨sh, kind, key⟩, att, 2, found, word⟩ : ExS)) ⟨h2, hfd, hwd, hu, hpop⟩ W2
   simp only [HDD.out] at HPU
   have HPO := fun W => (show Calls Tryz.prog 183 #[.agg #[.int .i64 sh, .int .i64 kind, .int .i64 key]] W _ from task_Pops ⟨sh, kind, key⟩ W)
   obtain ⟨q, hq⟩ : ∃ q, casOk M m dd word = q := ⟨_, rfl⟩
   obtain ⟨pp, hpp⟩ : ∃ pp, (⟨sh, kind, key⟩ : Tk3).pops = pp := ⟨_, rfl⟩
   simp only [hq] at HPU
   simp only [hpp] at HPO
   have HST : Hid (stepEx M m (⟨popped, gave, u, ⟨sh, kind, key⟩, att, 2, found, word⟩ : ExS) = (true, cas M m dd word (putW W2), if q && pp then ⟨k2, gave, u, ⟨sh, kind, key⟩, att, 2, found, word⟩ else (⟨popped, gave, u, ⟨sh, kind, key⟩, att, 2, found, word⟩ : ExS))) := Lib.hid (by rw [← hq, ← hpp, ← hW2]; unfold stepEx; simp only [HDD.out, HWW.out]; first | rfl | simp)
   have hnx := hwf.next
   simp only at hnx
   clear hW2 hq hpp
   cases q
   ·skip
    go_wp2_with fail
    revert nw; revert nd; revert hm; revert sb; revert fr; refine drw ?_; intro fr sb hm nd nw
    obtain ⟨q1, q2, q3, qi⟩ := such3 sb nd nw
    refine wp_such3 sb nd nw 18 [([0, 1, 2, 3, 4, 5, 6, 7, 8, 9, 10], 11), ([], 12)] [13, 14, 15, 16, 17] [18, 19] (by kernel_rfl) (by kernel_rfl) ?_
    refine wpPh_cons ?_; simp only [ox]; repeat (go_big_quiet_step (fail))
    refine pho rfl (fun K' hK' => ?_); go_simp
    revert fr sb hm nd nw; with_reducible refine pur (HMK _) ?_; rintro e w3 rfl fr sb hm nd nw
    refine hK' _ _ (mks3 sb nd nw) ?_; clear hK' K'
    refine wpPh_cons ?_; simp only [ox]; repeat (go_big_quiet_step (fail))
    refine pho rfl (fun K' hK' => ?_); go_simp
    ((with_reducible refine (HPU _ hm sb).mono ?_); clear hm; rintro e w4 ⟨rfl, hm, own, hf⟩)
    revert fr nd nw; refine mvf hf (fun _ h => h) (fun _ h => h) ag ?_; clear hf; intro fr nd nw
    replace sb : SB w4 C c b 224 #[.int .i64 M.L.th, .int .i64 M.L.nd, .int .i64 popped, .int .i64 gave, .int .i64 u, .int .i64 sh, .int .i64 kind, .int .i64 key, .bool true, .int .i64 att, .int .i64 2, .int .u64 found, .int .u64 word] := own.blk
    clear own
    refine hK' _ _ (mks3 sb nd nw) ?_; clear hK' K'
    refine wpPh_nil ?_; try simp only
    repeat (go_big_quiet_step (fail))
    refine wpQuiet_nil ?_
    refine wpTail_late _ _ _ (by kernel_rfl) ?_; try simp only [ox]
    clear qi q1 q2 q3
    go_wp2_with fail
    refine NoPanic.normal ?_
    go_wp2_with fail
    go_ret
    exact ⟨by rw [HST.out]; rfl, by rw [HST.out]; exact hm, by rw [HST.out]; exact ⟨sb, hfd, hwd, hu, hpop⟩, fr⟩
   ·skip
    go_wp2_with fail
    revert nw; revert nd; revert hm; revert sb; revert fr; refine drw ?_; intro fr sb hm nd nw
    obtain ⟨q1, q2, q3, qi⟩ := such3 sb nd nw
    refine wp_such3 sb nd nw 18 [([0, 1, 2, 3, 4, 5, 6, 7, 8, 9, 10], 11), ([], 12)] [13, 14, 15, 16, 17] [18, 19] (by kernel_rfl) (by kernel_rfl) ?_
    refine wpPh_cons ?_; simp only [ox]; repeat (go_big_quiet_step (fail))
    refine pho rfl (fun K' hK' => ?_); go_simp
    revert fr sb hm nd nw; with_reducible refine pur (HMK _) ?_; rintro e w3 rfl fr sb hm nd nw
    refine hK' _ _ (mks3 sb nd nw) ?_; clear hK' K'
    refine wpPh_cons ?_; simp only [ox]; repeat (go_big_quiet_step (fail))
    refine pho rfl (fun K' hK' => ?_); go_simp
    ((with_reducible refine (HPU _ hm sb).mono ?_); clear hm; rintro e w4 ⟨rfl, hm, own, hf⟩)
    revert fr nd nw; refine mvf hf (fun _ h => h) (fun _ h => h) ag ?_; clear hf; intro fr nd nw
    replace sb : SB w4 C c b 224 #[.int .i64 M.L.th, .int .i64 M.L.nd, .int .i64 popped, .int .i64 gave, .int .i64 u, .int .i64 sh, .int .i64 kind, .int .i64 key, .bool true, .int .i64 att, .int .i64 2, .int .u64 found, .int .u64 word] := own.blk
    clear own
    refine hK' _ _ (mks3 sb nd nw) ?_; clear hK' K'
    refine wpPh_nil ?_; try simp only
    repeat (go_big_quiet_step (fail))
    refine wpQuiet_nil ?_
    refine wpTail_late _ _ _ (by kernel_rfl) ?_; try simp only [ox]
    clear qi q1 q2 q3
    go_wp2_with fail
    revert nw; revert nd; revert hm; revert sb; revert fr; refine pur (HPO _) ?_; rintro e w5 rfl fr sb hm nd nw
    cases pp
    ·skip
     go_wp2_with fail
     refine NoPanic.normal ?_
     go_wp2_with fail
     go_ret
     exact ⟨by rw [HST.out]; rfl, by rw [HST.out]; exact hm, by rw [HST.out]; exact ⟨sb, hfd, hwd, hu, hpop⟩, fr⟩
    ·skip
     have z3 := And.intro sb (And.intro nd nw)
     revert nw; revert nd; revert hm; revert fr; refine st1 sb 2 (.int .i64 k2) (K0_Kc c) ag ?_; clear sb; rintro w6 e1 fr sb hm nd nw
     simp only [sx] at sb
     go_wp2_with fail
     refine NoPanic.normal ?_
     go_wp2_with fail
     clear z3 e1
     go_ret
     exact ⟨by rw [HST.out]; rfl, by rw [HST.out]; exact hm, by rw [HST.out]; exact ⟨sb, hfd, hwd, hu, (show 0 ≤ k2 ∧ k2 ≤ 1000 by omega)⟩, fr⟩
  ·skip
   have HMK := fun W => (fun W => (show Calls Tryz.prog 160 #[.agg #[.int .i64 da, .int .i64 dd, .int .i64 dv, .int .i64 dn, .bool dm, .int .i64 ds, .int .i64 dl], .int .i64 3] W _ from desc_With (⟨da, dd, dv, dn, dm, ds, dl⟩ : Ds) 3 W)) W
   obtain ⟨D2, hD2⟩ : ∃ D2, (⟨da, dd, dv, dn, dm, ds, dl⟩ : Ds).with_ 3 = D2 := ⟨_, rfl⟩
   simp only [hD2] at HMK
   have HST : Hid (stepEx M m (⟨popped, gave, u, ⟨sh, kind, key⟩, att, 3, found, word⟩ : ExS) = (true, cas M m (M.L.desc u) found (putD ((⟨da, dd, dv, dn, dm, ds, dl⟩ : Ds).with_ 3)), (⟨popped, gave, u, ⟨sh, kind, key⟩, att, 3, found, word⟩ : ExS))) := Lib.hid (by unfold stepEx; simp only [HDD.out, HWW.out]; first | rfl | simp)
   rw [hD2] at HST
   clear hD2
   go_wp2_with fail
   revert nw; revert nd; revert hm; revert sb; revert fr; refine pur (HMK _) ?_; rintro e w3 rfl fr sb hm nd nw
   go_wp2_with fail
   refine (exec_turn hm (x := (⟨popped, gave, u, ⟨sh, kind, key⟩, att, 3, found, word⟩ : ExS)) ⟨sb, hfd, hwd, hu, hpop⟩ D2).mono ?_
   rintro e w9 ⟨rfl, hm9, own, hf⟩
   replace fr := fr.trans hf ag
   replace hm := hm9
   clear hm9
   go_wp2_with fail
   go_ret
   exact ⟨by rw [HST.out]; rfl, by rw [HST.out]; exact hm, by rw [HST.out]; exact own, fr⟩
  ·skip
   have HMK := fun W => (fun W => (show Calls Tryz.prog 160 #[.agg #[.int .i64 da, .int .i64 dd, .int .i64 dv, .int .i64 dn, .bool dm, .int .i64 ds, .int .i64 dl], .int .i64 4] W _ from desc_With (⟨da, dd, dv, dn, dm, ds, dl⟩ : Ds) 4 W)) W
   obtain ⟨D2, hD2⟩ : ∃ D2, (⟨da, dd, dv, dn, dm, ds, dl⟩ : Ds).with_ 4 = D2 := ⟨_, rfl⟩
   simp only [hD2] at HMK
   have HST : Hid (stepEx M m (⟨popped, gave, u, ⟨sh, kind, key⟩, att, 4, found, word⟩ : ExS) = (true, cas M m (M.L.desc u) found (putD ((⟨da, dd, dv, dn, dm, ds, dl⟩ : Ds).with_ 4)), (⟨popped, gave, u, ⟨sh, kind, key⟩, att, 4, found, word⟩ : ExS))) := Lib.hid (by unfold stepEx; simp only [HDD.out, HWW.out]; first | rfl | simp)
   rw [hD2] at HST
   clear hD2
   go_wp2_with fail
   revert nw; revert nd; revert hm; revert sb; revert fr; refine pur (HMK _) ?_; rintro e w3 rfl fr sb hm nd nw
   go_wp2_with fail
   refine (exec_turn hm (x := (⟨popped, gave, u, ⟨sh, kind, key⟩, att, 4, found, word⟩ : ExS)) ⟨sb, hfd, hwd, hu, hpop⟩ D2).mono ?_
   rintro e w9 ⟨rfl, hm9, own, hf⟩
   replace fr := fr.trans hf ag
   replace hm := hm9
   clear hm9
   go_wp2_with fail
   go_ret
   exact ⟨by rw [HST.out]; rfl, by rw [HST.out]; exact hm, by rw [HST.out]; exact own, fr⟩
  ·skip
   have HST : Hid (stepEx M m (⟨popped, gave, u, ⟨sh, kind, key⟩, att, 5, found, word⟩ : ExS) = (false, m, (⟨popped, gave, u, ⟨sh, kind, key⟩, att, 5, found, word⟩ : ExS).look (ld M m (getD' found).addr) 7 6 7)) := Lib.hid rfl
   go_wp2_with fail
   refine (exec_look hm (x := (⟨popped, gave, u, ⟨sh, kind, key⟩, att, 5, found, word⟩ : ExS)) ⟨sb, hfd, hwd, hu, hpop⟩ 7 6 7).mono ?_
   rintro e w9 ⟨rfl, hm9, own, hf⟩
   replace fr := fr.trans hf ag
   replace hm := hm9
   clear hm9
   go_wp2_with fail
   go_ret
   exact ⟨by rw [HST.out]; rfl, by rw [HST.out]; exact hm, by rw [HST.out]; exact own, fr⟩
  ·skip
   have HMK := fun W => (show Calls Tryz.prog 162 #[.agg #[.int .i64 k1, .int .i64 k2, .bool k3, .int .i64 k4, .int .i64 k5]] W _ from word_Free (⟨k1, k2, k3, k4, k5⟩ : Wd) W hwf.ver)
   obtain ⟨W2, hW2⟩ : ∃ W2, (⟨k1, k2, k3, k4, k5⟩ : Wd).free = W2 := ⟨_, rfl⟩
   simp only [hW2] at HMK
   have HPU := fun W (h1 : MemAt W C M m) (h2 : SB W C c b 224 #[.int .i64 M.L.th, .int .i64 M.L.nd, .int .i64 popped, .int .i64 gave, .int .i64 u, .int .i64 sh, .int .i64 kind, .int .i64 key, .bool true, .int .i64 att, .int .i64 6, .int .u64 found, .int .u64 word]) => exec_put h1 (x := (⟨popped, gave, u, ⟨sh, kind, key⟩, att, 6, found, word⟩ : ExS)) ⟨h2, hfd, hwd, hu, hpop⟩ W2
   simp only [HDD.out] at HPU
   have HST : Hid (stepEx M m (⟨popped, gave, u, ⟨sh, kind, key⟩, att, 6, found, word⟩ : ExS) = (false, cas M m dd word (putW ((⟨k1, k2, k3, k4, k5⟩ : Wd).free)), (⟨popped, gave, u, ⟨sh, kind, key⟩, att, 7, found, word⟩ : ExS))) := Lib.hid (by unfold stepEx; simp only [HDD.out, HWW.out]; first | rfl | simp)
   rw [hW2] at HST
   clear hW2
   go_wp2_with fail
   revert nw; revert nd; revert hm; revert sb; revert fr; refine pur (HMK _) ?_; rintro e w3 rfl fr sb hm nd nw
   go_wp2_with fail
   refine (HPU _ hm sb).mono ?_
   rintro e w9 ⟨rfl, hm9, own, hf⟩
   replace fr := fr.trans hf ag
   replace hm := hm9
   clear hm9
   replace sb := own.blk
   replace nd := nd.fr hf (.inr (by decide))
   replace nw := nw.fr hf (.inr (by decide))
   clear own hf
   have z3 := And.intro sb (And.intro nd nw)
   revert nw; revert nd; revert hm; revert fr; refine st1 sb 10 (.int .i64 7) (K0_Kc c) ag ?_; clear sb; rintro w4 e1 fr sb hm nd nw
   simp only [sx] at sb
   go_wp2_with fail
   clear z3 e1
   go_ret
   exact ⟨by rw [HST.out]; rfl, by rw [HST.out]; exact hm, by rw [HST.out]; exact ⟨sb, hfd, hwd, hu, hpop⟩, fr⟩
  ·skip
   have HMK := fun W => (fun W => (show Calls Tryz.prog 101 #[.agg #[.int .i64 da, .int .i64 dd, .int .i64 dv, .int .i64 dn, .bool dm, .int .i64 ds, .int .i64 dl], .agg #[.int .i64 0, .bool true, .int .i64 dl]] W (fun e w' => e = .returned (Ds.vals ((⟨da, dd, dv, dn, dm, ds, dl⟩ : Ds).ended 0 true dl)) ∧ Below W.heap.size W w') from desc_Ended (⟨da, dd, dv, dn, dm, ds, dl⟩ : Ds) 0 true dl W)) W
   obtain ⟨D2, hD2⟩ : ∃ D2, (⟨da, dd, dv, dn, dm, ds, dl⟩ : Ds).ended 0 true dl = D2 := ⟨_, rfl⟩
   simp only [hD2] at HMK
   have HST : Hid (stepEx M m (⟨popped, gave, u, ⟨sh, kind, key⟩, att, 7, found, word⟩ : ExS) = (true, cas M m (M.L.desc u) found (putD ((⟨da, dd, dv, dn, dm, ds, dl⟩ : Ds).ended 0 true dl)), (⟨popped, gave, u, ⟨sh, kind, key⟩, att, 7, found, word⟩ : ExS))) := Lib.hid (by unfold stepEx; simp only [HDD.out, HWW.out]; first | rfl | simp)
   rw [hD2] at HST
   clear hD2
   go_wp2_with fail
   revert nw; revert nd; revert hm; revert sb; revert fr; refine pur (HMK _) ?_; rintro e w3 rfl fr sb hm nd nw
   go_wp2_with fail
   refine (exec_turn hm (x := (⟨popped, gave, u, ⟨sh, kind, key⟩, att, 7, found, word⟩ : ExS)) ⟨sb, hfd, hwd, hu, hpop⟩ D2).mono ?_
   rintro e w9 ⟨rfl, hm9, own, hf⟩
   replace fr := fr.trans hf ag
   replace hm := hm9
   clear hm9
   go_wp2_with fail
   go_ret
   exact ⟨by rw [HST.out]; rfl, by rw [HST.out]; exact hm, by rw [HST.out]; exact own, fr⟩
  ·skip
   have HMK := fun W => (show Calls Tryz.prog 124 #[.agg #[.int .i64 da, .int .i64 dd, .int .i64 dv, .int .i64 dn, .bool dm, .int .i64 ds, .int .i64 dl]] W _ from desc_Next1 (⟨da, dd, dv, dn, dm, ds, dl⟩ : Ds) hdf.att W)
   obtain ⟨D2, hD2⟩ : ∃ D2, (⟨da, dd, dv, dn, dm, ds, dl⟩ : Ds).next1 = D2 := ⟨_, rfl⟩
   simp only [hD2] at HMK
   have HTU := fun W (h1 : MemAt W C M m) (h2 : SB W C c b 224 #[.int .i64 M.L.th, .int .i64 M.L.nd, .int .i64 popped, .int .i64 gave, .int .i64 u, .int .i64 sh, .int .i64 kind, .int .i64 key, .bool true, .int .i64 att, .int .i64 9, .int .u64 found, .int .u64 word]) => exec_turn h1 (x := (⟨popped, gave, u, ⟨sh, kind, key⟩, att, 9, found, word⟩ : ExS)) ⟨h2, hfd, hwd, hu, hpop⟩ D2
   have HLI := fun W => (show Calls Tryz.prog 104 #[.agg #[.int .i64 sh, .int .i64 kind, .int .i64 key]] W _ from task_Links ⟨sh, kind, key⟩ W)
   have HNO := fun W => lay_Node M.L dn W
   obtain ⟨q, hq⟩ : ∃ q, casOk M m (M.L.desc u) found = q := ⟨_, rfl⟩
   obtain ⟨pp, hpp⟩ : ∃ pp, (⟨sh, kind, key⟩ : Tk3).links = pp := ⟨_, rfl⟩
   obtain ⟨nn, hnn⟩ : ∃ nn, M.L.node dn = nn := ⟨_, rfl⟩
   simp only [hq] at HTU
   simp only [hpp] at HLI
   simp only [hnn] at HNO
   have HST : Hid (stepEx M m (⟨popped, gave, u, ⟨sh, kind, key⟩, att, 8, found, word⟩ : ExS) = (!q || (!pp || !nn), cas M m (M.L.desc u) found (putD D2), (⟨popped, gave, u, ⟨sh, kind, key⟩, att, 9, found, word⟩ : ExS))) := Lib.hid (by rw [← hq, ← hpp, ← hnn, ← hD2]; unfold stepEx; simp only [HDD.out, HWW.out]; first | rfl | simp)
   clear hD2 hq hpp hnn
   have z3 := And.intro sb (And.intro nd nw)
   revert nw; revert nd; revert hm; revert fr; refine st1 sb 10 (.int .i64 9) (K0_Kc c) ag ?_; clear sb; rintro w3 e1 fr sb hm nd nw
   simp only [sx] at sb
   go_wp2_with fail
   clear z3 e1
   cases q <;> cases pp
   ·skip
    revert nw; revert nd; revert hm; revert sb; revert fr; refine drw ?_; intro fr sb hm nd nw
    obtain ⟨q1, q2, q3, qi⟩ := such3 sb nd nw
    refine wp_such3 sb nd nw 21 [([0, 1, 2], 3), ([], 4), ([5, 6, 7, 8, 9, 10], 11)] [12, 13, 14, 15, 16, 17, 18, 19, 20] [21, 22, 23, 24] (by kernel_rfl) (by kernel_rfl) ?_
    refine wpPh_cons ?_; simp only [ox]; repeat (go_big_quiet_step (fail))
    refine pho rfl (fun K' hK' => ?_); go_simp
    revert fr sb hm nd nw; with_reducible refine pur (HMK _) ?_; rintro e w4 rfl fr sb hm nd nw
    refine hK' _ _ (mks3 sb nd nw) ?_; clear hK' K'
    refine wpPh_cons ?_; simp only [ox]; repeat (go_big_quiet_step (fail))
    refine pho rfl (fun K' hK' => ?_); go_simp
    ((with_reducible refine (HTU _ hm sb).mono ?_); clear hm; rintro e w5 ⟨rfl, hm, own, hf⟩)
    revert fr nd nw; refine mvf hf (fun _ h => h) (fun _ h => h) ag ?_; clear hf; intro fr nd nw
    replace sb : SB w5 C c b 224 #[.int .i64 M.L.th, .int .i64 M.L.nd, .int .i64 popped, .int .i64 gave, .int .i64 u, .int .i64 sh, .int .i64 kind, .int .i64 key, .bool true, .int .i64 att, .int .i64 9, .int .u64 found, .int .u64 word] := own.blk
    clear own
    refine hK' _ _ (mks3 sb nd nw) ?_; clear hK' K'
    refine wpPh_cons ?_; simp only [ox]; repeat (go_big_quiet_step (fail))
    refine pho rfl (fun K' hK' => ?_); go_simp
    refine hK' _ _ (mks3 sb nd nw) ?_; clear hK' K'
    refine wpPh_nil ?_; try simp only [ox]
    repeat (go_big_quiet_step (fail))
    refine wpQuiet_nil ?_
    refine wpTail_late _ _ _ (by kernel_rfl) ?_; try simp only [ox]
    clear qi q1 q2 q3
    go_wp2_with fail
    refine NoPanic.normal ?_
    go_wp2_with fail
    go_ret
    exact ⟨by rw [HST.out]; rfl, by rw [HST.out]; exact hm, by rw [HST.out]; exact ⟨sb, hfd, hwd, hu, hpop⟩, fr⟩
   ·skip
    revert nw; revert nd; revert hm; revert sb; revert fr; refine drw ?_; intro fr sb hm nd nw
    obtain ⟨q1, q2, q3, qi⟩ := such3 sb nd nw
    refine wp_such3 sb nd nw 21 [([0, 1, 2], 3), ([], 4), ([5, 6, 7, 8, 9, 10], 11)] [12, 13, 14, 15, 16, 17, 18, 19, 20] [21, 22, 23, 24] (by kernel_rfl) (by kernel_rfl) ?_
    refine wpPh_cons ?_; simp only [ox]; repeat (go_big_quiet_step (fail))
    refine pho rfl (fun K' hK' => ?_); go_simp
    revert fr sb hm nd nw; with_reducible refine pur (HMK _) ?_; rintro e w4 rfl fr sb hm nd nw
    refine hK' _ _ (mks3 sb nd nw) ?_; clear hK' K'
    refine wpPh_cons ?_; simp only [ox]; repeat (go_big_quiet_step (fail))
    refine pho rfl (fun K' hK' => ?_); go_simp
    ((with_reducible refine (HTU _ hm sb).mono ?_); clear hm; rintro e w5 ⟨rfl, hm, own, hf⟩)
    revert fr nd nw; refine mvf hf (fun _ h => h) (fun _ h => h) ag ?_; clear hf; intro fr nd nw
    replace sb : SB w5 C c b 224 #[.int .i64 M.L.th, .int .i64 M.L.nd, .int .i64 popped, .int .i64 gave, .int .i64 u, .int .i64 sh, .int .i64 kind, .int .i64 key, .bool true, .int .i64 att, .int .i64 9, .int .u64 found, .int .u64 word] := own.blk
    clear own
    refine hK' _ _ (mks3 sb nd nw) ?_; clear hK' K'
    refine wpPh_cons ?_; simp only [ox]; repeat (go_big_quiet_step (fail))
    refine pho rfl (fun K' hK' => ?_); go_simp
    refine hK' _ _ (mks3 sb nd nw) ?_; clear hK' K'
    refine wpPh_nil ?_; try simp only [ox]
    repeat (go_big_quiet_step (fail))
    refine wpQuiet_nil ?_
    refine wpTail_late _ _ _ (by kernel_rfl) ?_; try simp only [ox]
    clear qi q1 q2 q3
    go_wp2_with fail
    refine NoPanic.normal ?_
    go_wp2_with fail
    go_ret
    exact ⟨by rw [HST.out]; rfl, by rw [HST.out]; exact hm, by rw [HST.out]; exact ⟨sb, hfd, hwd, hu, hpop⟩, fr⟩
   ·skip
    revert nw; revert nd; revert hm; revert sb; revert fr; refine drw ?_; intro fr sb hm nd nw
    obtain ⟨q1, q2, q3, qi⟩ := such3 sb nd nw
    refine wp_such3 sb nd nw 21 [([0, 1, 2], 3), ([], 4), ([5, 6, 7, 8, 9, 10], 11)] [12, 13, 14, 15, 16, 17, 18, 19, 20] [21, 22, 23, 24] (by kernel_rfl) (by kernel_rfl) ?_
    refine wpPh_cons ?_; simp only [ox]; repeat (go_big_quiet_step (fail))
    refine pho rfl (fun K' hK' => ?_); go_simp
    revert fr sb hm nd nw; with_reducible refine pur (HMK _) ?_; rintro e w4 rfl fr sb hm nd nw
    refine hK' _ _ (mks3 sb nd nw) ?_; clear hK' K'
    refine wpPh_cons ?_; simp only [ox]; repeat (go_big_quiet_step (fail))
    refine pho rfl (fun K' hK' => ?_); go_simp
    ((with_reducible refine (HTU _ hm sb).mono ?_); clear hm; rintro e w5 ⟨rfl, hm, own, hf⟩)
    revert fr nd nw; refine mvf hf (fun _ h => h) (fun _ h => h) ag ?_; clear hf; intro fr nd nw
    replace sb : SB w5 C c b 224 #[.int .i64 M.L.th, .int .i64 M.L.nd, .int .i64 popped, .int .i64 gave, .int .i64 u, .int .i64 sh, .int .i64 kind, .int .i64 key, .bool true, .int .i64 att, .int .i64 9, .int .u64 found, .int .u64 word] := own.blk
    clear own
    refine hK' _ _ (mks3 sb nd nw) ?_; clear hK' K'
    refine wpPh_cons ?_; simp only [ox]; repeat (go_big_quiet_step (fail))
    refine pho rfl (fun K' hK' => ?_); go_simp
    revert nw; revert nd; revert hm; revert sb; revert fr; with_reducible refine pur (HLI _) ?_; rintro e w6 rfl fr sb hm nd nw
    refine hK' _ _ (mks3 sb nd nw) ?_; clear hK' K'
    refine wpPh_nil ?_; try simp only [ox]
    repeat (go_big_quiet_step (fail))
    refine wpQuiet_nil ?_
    refine wpTail_late _ _ _ (by kernel_rfl) ?_; try simp only [ox]
    clear qi q1 q2 q3
    go_wp2_with fail
    refine NoPanic.normal ?_
    go_wp2_with fail
    go_ret
    exact ⟨by rw [HST.out]; rfl, by rw [HST.out]; exact hm, by rw [HST.out]; exact ⟨sb, hfd, hwd, hu, hpop⟩, fr⟩
   ·skip
    revert nw; revert nd; revert hm; revert sb; revert fr; refine drw ?_; intro fr sb hm nd nw
    obtain ⟨q1, q2, q3, qi⟩ := such3 sb nd nw
    refine wp_such3 sb nd nw 21 [([0, 1, 2], 3), ([], 4), ([5, 6, 7, 8, 9, 10], 11)] [12, 13, 14, 15, 16, 17, 18, 19, 20] [21, 22, 23, 24] (by kernel_rfl) (by kernel_rfl) ?_
    refine wpPh_cons ?_; simp only [ox]; repeat (go_big_quiet_step (fail))
    refine pho rfl (fun K' hK' => ?_); go_simp
    revert fr sb hm nd nw; with_reducible refine pur (HMK _) ?_; rintro e w4 rfl fr sb hm nd nw
    refine hK' _ _ (mks3 sb nd nw) ?_; clear hK' K'
    refine wpPh_cons ?_; simp only [ox]; repeat (go_big_quiet_step (fail))
    refine pho rfl (fun K' hK' => ?_); go_simp
    ((with_reducible refine (HTU _ hm sb).mono ?_); clear hm; rintro e w5 ⟨rfl, hm, own, hf⟩)
    revert fr nd nw; refine mvf hf (fun _ h => h) (fun _ h => h) ag ?_; clear hf; intro fr nd nw
    replace sb : SB w5 C c b 224 #[.int .i64 M.L.th, .int .i64 M.L.nd, .int .i64 popped, .int .i64 gave, .int .i64 u, .int .i64 sh, .int .i64 kind, .int .i64 key, .bool true, .int .i64 att, .int .i64 9, .int .u64 found, .int .u64 word] := own.blk
    clear own
    refine hK' _ _ (mks3 sb nd nw) ?_; clear hK' K'
    refine wpPh_cons ?_; simp only [ox]; repeat (go_big_quiet_step (fail))
    refine pho rfl (fun K' hK' => ?_); go_simp
    revert nw; revert nd; revert hm; revert sb; revert fr; with_reducible refine pur (HLI _) ?_; rintro e w6 rfl fr sb hm nd nw
    refine hK' _ _ (mks3 sb nd nw) ?_; clear hK' K'
    refine wpPh_nil ?_; try simp only [ox]
    repeat (go_big_quiet_step (fail))
    refine wpQuiet_nil ?_
    refine wpTail_late _ _ _ (by kernel_rfl) ?_; try simp only [ox]
    clear qi q1 q2 q3
    go_wp2_with fail
    revert fr sb hm nd nw; refine pur (HNO _) ?_; rintro e w7 rfl fr sb hm nd nw
    go_wp2_with fail
    refine NoPanic.normal ?_
    go_wp2_with fail
    go_ret
    exact ⟨by rw [HST.out]; rfl, by rw [HST.out]; exact hm, by rw [HST.out]; exact ⟨sb, hfd, hwd, hu, hpop⟩, fr⟩
  ·skip
   have hnx := hdf.next
   simp only at hnx
   have HST : Hid (stepEx M m (⟨popped, gave, u, ⟨sh, kind, key⟩, att, 9, found, word⟩ : ExS) = (true, add M m (M.L.life dn) 1, ⟨popped, dn, u, ⟨sh, kind, key⟩, att, 9, found, word⟩)) := Lib.hid (by unfold stepEx; simp only [HDD.out, HWW.out]; first | rfl | simp)
   go_wp2_with fail
   revert nw; revert nd; revert hm; revert sb; revert fr; refine drw ?_; intro fr sb hm nd nw
   obtain ⟨q1, q2, q3, qi⟩ := such3 sb nd nw
   refine wp_such3 sb nd nw 7 [] [0, 1, 2, 3, 4, 5, 6] [7, 8] (by kernel_rfl) (by kernel_rfl) ?_
   refine wpPh_nil ?_; try simp only [ox]
   repeat (go_big_quiet_step (fail))
   refine wpQuiet_nil ?_
   refine wpTail_late _ _ _ (by kernel_rfl) ?_; try simp only [ox]
   clear qi q1 q2 q3
   go_wp2_with fail
   refine (lay_Life M.L hm.ok dn (by omega) _).mono ?_; rintro e w3 ⟨rfl, hb3⟩
   revert fr sb hm nd nw; refine mvb hb3 ?_; intro fr sb hm nd nw
   go_wp2_with fail
   refine (mem_Add hm (M.L.life dn) 1).mono ?_; clear hm; rintro e w4 ⟨rfl, hm, hf⟩
   revert fr sb nd nw; refine mvf hf (Kc_mem c) LM_LEx ag ?_; clear hf; intro fr sb nd nw
   have z3 := And.intro sb (And.intro nd nw)
   revert hm nd nw; revert fr; refine st1 sb 3 (.int .i64 dn) (K0_Kc c) ag ?_; clear sb; rintro w5 e1 fr sb hm nd nw
   simp only [sx] at sb
   go_wp2_with fail
   refine NoPanic.normal ?_
   go_wp2_with fail
   clear z3 e1
   go_ret
   exact ⟨by rw [HST.out]; rfl, by rw [HST.out]; exact hm, by rw [HST.out]; exact ⟨sb, hfd, hwd, hu, hpop⟩, fr⟩
def HpC (w : World) (C : Nat → Nat) (c sg b : Nat) (pe pn pf pc pp : Value) (h : HpS) : Prop := SB w C c b 171 #[.pointer (some ⟨sg, 0, none⟩), .int .i64 h.u, .int .u64 h.no, .int .i64 h.rounds, .int .i64 h.limit, .int .i64 h.at_, .int .u64 h.found, .int .i64 h.task.sh, .int .i64 h.task.kind, .int .i64 h.task.key, .bool h.plan.now, .int .i64 h.plan.res.code, .bool h.plan.res.ok, .int .i64 h.plan.res.val, .int .i64 h.plan.addr, .int .u64 h.plan.old, .int .i64 h.plan.next, .bool h.plan.mark, .int .i64 h.plan.pops, pe, pn, pf, pc, pp]
structure HpAt (w : World) (C : Nat → Nat) (c s sg b : Nat) (L : Ly) (h : HpS) : Prop where
 ex : ∃ pe pn pf pc pp, HpC w C c sg b pe pn pf pc pp h ∧ (h.at_ = 3 → ∃ b', pe = .pointer (some ⟨b', 0, none⟩) ∧ ExAt w C c b' L h.exec) ∧ (h.at_ = 4 → ∃ b', pn = .pointer (some ⟨b', 0, none⟩) ∧ EnAt w C c s sg b' L h.ens) ∧
  (h.at_ = 5 → ∃ b', pf = .pointer (some ⟨b', 0, none⟩) ∧ FiAt w C c b' L h.find) ∧ (h.at_ = 7 → ∃ b', pc = .pointer (some ⟨b', 0, none⟩) ∧ ClAt w C c b' L h.cl) ∧ (h.at_ = 8 → ∃ b', pp = .pointer (some ⟨b', 0, none⟩) ∧ PrAt w C c sg b' h.prep)
def THp : List (Option TypeId) := [some 171, some 224, some 157, some 3, some 230, some 236] ++ TEn
theorem HpAt.mv {w w' : World} {C C' : Nat → Nat} {K : Nat → Prop} {T : List (Option TypeId)} {c s sg b : Nat} {L : Ly} {h : HpS} (hh : HpAt w C c s sg b L h) (k : Fr C K T w w') (a : Agr w.heap.size C C') (hk : (¬ K c ∧ ¬ K s) ∨ Away THp T) : HpAt w' C' c s sg b L h := by
 obtain ⟨pe, pn, pf, pc, pp, h1, h2, h3, h4, h5, h6⟩ := hh.ex
 refine ⟨pe, pn, pf, pc, pp, SB.mv h1 k a (hk.imp (·.1) (fun h => h _ (by decide))), fun e => ?_, fun e => ?_, fun e => ?_, fun e => ?_, fun e => ?_⟩
 ·obtain ⟨bf, e1, e2⟩ := h2 e
  exact ⟨bf, e1, e2.mv k a (hk.imp (·.1) (fun h x hx => h x (by revert x; decide)))⟩
 ·obtain ⟨bf, e1, e2⟩ := h3 e
  exact ⟨bf, e1, e2.mv k a (hk.imp id (fun h x hx => h x (by revert x; decide)))⟩
 ·obtain ⟨bf, e1, e2⟩ := h4 e
  exact ⟨bf, e1, e2.mv k a (hk.imp (·.1) (fun h x hx => h x (by revert x; decide)))⟩
 ·obtain ⟨bf, e1, e2⟩ := h5 e
  exact ⟨bf, e1, e2.mv k a (hk.imp (·.1) (fun h => h _ (by decide)))⟩
 ·obtain ⟨bf, e1, e2⟩ := h6 e
  exact ⟨bf, e1, e2.mv k a (hk.imp (·.1) (fun h x hx => h x (by revert x; decide)))⟩
instance {w : World} {C : Nat → Nat} {c s sg b : Nat} {L : Ly} {x : HpS} : Mv (HpAt w C c s sg b L x) w C THp (fun w' C' => HpAt w' C' c s sg b L x) := ⟨fun h k a hk => h.mv k a (.inr hk)⟩
theorem help_New (sg : Nat) (L : Ly) (s : Nat) (u no limit : Int) (C : Nat → Nat) (c : Nat) (w : World) : Calls Tryz.prog 78 #[.pointer (some ⟨sg, 0, none⟩), .int .i64 u, .int .u64 no, .int .i64 limit] w (NewW C c (fun w' C' b => HpAt w' C' c s sg b L (.new L u no limit)) w) := by
 go_enter Tryz.func78, Tryz.ntmps78
 go_wp2_with fail
 go_ret
 exact ⟨⟨w.heap.size, rfl, Nat.le_refl _, ⟨_, _, _, _, _, SB.new _ _ (paint_new C c (Nat.le_refl _)) _ _ rfl, (fun h => by simp [HpS.new] at h), (fun h => by simp [HpS.new] at h), (fun h => by simp [HpS.new] at h), (fun h => by simp [HpS.new] at h), (fun h => by simp [HpS.new] at h)⟩⟩, (Below.refl _ _).alloc (Nat.le_refl _) _⟩
structure HpS.Ok (h : HpS) (N : Int) : Prop where
 found : 0 ≤ h.found ∧ h.found < 18446744073709551616
 u : 0 ≤ h.u ∧ h.u ≤ 7
 rounds : 0 ≤ h.rounds ∧ h.rounds ≤ N
structure OM (C : Nat → Nat) (c : Nat) (LX : List (Option TypeId)) (v : Value) (M : ML) (m' : Mm) (P : World → Prop) (w : World) (e : Ending) (w' : World) : Prop where
 ret : e = .returned v
 mem : MemAt w' C M m'
 own : P w'
 fr : Fr C (Kc c) LX w w'
def LHt : List (Option TypeId) := [some 171, some 75, some 34]
theorem LM_LHt : ∀ x, x ∈ LM → x ∈ LHt := by decide
theorem help_desc {w : World} {C : Nat → Nat} {c sg b : Nat} {h : HpS} {pe pn pf pc pp : Value} (sb : HpC w C c sg b pe pn pf pc pp h) (hfd : 0 ≤ h.found ∧ h.found < 18446744073709551616) : Calls Tryz.prog 97 #[.pointer (some ⟨b, 0, none⟩)] w fun e w' => e = .returned (getD' h.found).vals ∧ Below w.heap.size w w' := by
 unfold HpC at sb
 obtain ⟨u, no, rounds, limit, at_, found, ⟨sh, kind, key⟩, ⟨g0, ⟨g1, g2, g3⟩, g4, g5, g6, g7, g8⟩, exec, ens, find, cl, prep⟩ := h
 simp only at sb hfd ⊢
 have HG := fun W => desc_Get found W hfd
 obtain ⟨D, hD⟩ : ∃ D, getD' found = D := ⟨_, rfl⟩
 simp only [hD] at HG ⊢
 obtain ⟨da, dd, dv, dn, dm, ds, dl⟩ := D
 simp only [Ds.vals] at HG ⊢
 have hl := sb.lt
 clear hD
 go_enter Tryz.func97, Tryz.ntmps97
 have fr := Fr.refl C (fun _ => False) [] w
 have ag := Agr.refl w.heap.size C
 have z1 := sb
 revert sb; revert fr; refine bx1 161 #[.int .i64 0, .int .i64 0, .int .i64 0, .int .i64 0, .bool false, .int .i64 0, .int .i64 0] ?_; rintro w1 edz ldz fr dz sb
 go_wp2_with fail
 clear edz z1
 revert fr dz sb; refine pur (HG _) ?_; rintro e w2 rfl fr dz sb
 have z2 := And.intro sb dz
 have hR := stR
 revert fr sb; refine stsn dz [(0, .int .i64 da), (1, .int .i64 dd), (2, .int .i64 dv), (3, .int .i64 dn), (4, .bool dm), (5, .int .i64 ds), (6, .int .i64 dl)] ?_; clear dz; rintro w3 e1 fr dz sb
 simp only [stx, sx] at e1 dz
 go_wp2_with fail
 clear z2 e1 hR
 refine bodyPost_ret (v := .agg #[.int .i64 da, .int .i64 dd, .int .i64 dv, .int .i64 dn, .bool dm, .int .i64 ds, .int .i64 dl]) (by simp [results, Tryz.results97, go_sem, dz.1]) rfl ⟨rfl, fr.toBel⟩
theorem help_turn {w : World} {C : Nat → Nat} {c s sg b : Nat} {M : ML} {m : Mm} {me : Int} {t : StS} {h : HpS} {pe pn pf pc pp : Value} (hm : MemAt w C M m) (hst : StAt w C s sg M.L me t) (sb : HpC w C c sg b pe pn pf pc pp h) (hu : 0 ≤ h.u ∧ h.u ≤ 7) (x : Int) (hx : 0 ≤ x ∧ x < 18446744073709551616) : Calls Tryz.prog 102 #[.pointer (some ⟨b, 0, none⟩), .pointer (some ⟨M.b, 0, none⟩), .int .u64 x] w (OM C c LHt (.bool (casOk M m (M.L.desc h.u) h.found)) M (cas M m (M.L.desc h.u) h.found x) (fun w' => HpC w' C c sg b pe pn pf pc pp { h with at_ := 0 }) w) := by
 obtain ⟨⟨A, n, cap, hn, st, hrow⟩, hme, hsp, hsm⟩ := hst
 unfold HpC at sb
 obtain ⟨u, no, rounds, limit, at_, found, ⟨sh, kind, key⟩, ⟨g0, ⟨g1, g2, g3⟩, g4, g5, g6, g7, g8⟩, exec, ens, find, cl, prep⟩ := h
 simp only at sb hu ⊢
 clear hn hrow hsm
 go_enter Tryz.func102, Tryz.ntmps102
 have fr := Fr.refl C (Kc c) LHt w
 have ag := Agr.refl w.heap.size C
 go_wp2_with fail
 have z1 := And.intro sb st
 revert st; revert hm; revert fr; refine st1 sb 5 (.int .i64 0) (K0_Kc c) ag ?_; clear sb; rintro w1 e1 fr sb hm st
 simp only [sx] at sb
 go_wp2_with fail
 simp only [e1]
 clear z1 e1
 revert fr hm st sb; refine drw ?_; intro fr hm st sb
 obtain ⟨q1, q2, qi⟩ := such2 sb st
 refine wp_such2 sb st 18 [] [0, 1, 2, 3, 4, 5, 6, 7, 8, 9, 10, 11, 13, 14, 15, 16, 17] [12, 18, 19] (by kernel_rfl) (by kernel_rfl) ?_
 refine wpPh_nil ?_; try simp only [ox]
 repeat (go_big_quiet_step (fail))
 refine wpQuiet_nil ?_
 refine wpTail_early rfl (fun K' hK' => ?_); go_simp
 ((with_reducible refine (lay_Desc M.L hm.ok u (by omega) _).mono ?_); rintro e w2 ⟨rfl, hb2⟩)
 revert fr hm st sb; refine mvb hb2 ?_; intro fr hm st sb
 refine hK' _ _ (mks2 sb st) ?_; clear hK' K'
 refine wpTail_late _ _ _ (by kernel_rfl) ?_; try simp only [ox]
 clear qi q1 q2
 go_wp2_with fail
 refine (mem_Cas hm (M.L.desc u) found x hx).mono ?_; clear hm; rintro e w3 ⟨rfl, hm, hf⟩
 revert fr st sb; refine mvf hf (Kc_mem c) LM_LHt ag ?_; clear hf; intro fr st sb
 go_wp2_with fail
 refine NoPanic.normal ?_
 go_wp2_with fail
 go_ret
 exact ⟨rfl, hm, sb, fr⟩
theorem help_search {w : World} {C : Nat → Nat} {c s sg b : Nat} {L : Ly} {me : Int} {t : StS} {h : HpS} {pe pn pf pc pp : Value} (hL : L.Ok) (hst : StAt w C s sg L me t) (sb : HpC w C c sg b pe pn pf pc pp h) (hmay : h.task.may = true) : Calls Tryz.prog 144 #[.pointer (some ⟨b, 0, none⟩)] w (OW C (K0 c) [some 171] (.tuple #[]) (fun w' C' => HpAt w' C' c s sg b L (h.search L me)) w) := by
 obtain ⟨⟨A, n, cap, hn, st, hrow⟩, hme, hsp, hsm⟩ := hst
 unfold HpC at sb
 obtain ⟨u, no, rounds, limit, at_, found, ⟨sh, kind, key⟩, ⟨g0, ⟨g1, g2, g3⟩, g4, g5, g6, g7, g8⟩, exec, ens, find, cl, prep⟩ := h
 simp only at sb hmay
 have hkr := (Tk3.rng hmay).key
 have hhr := Tk3.head_rng hmay
 simp only at hkr
 have HPL : ∀ W, Calls Tryz.prog 127 #[.agg #[.int .i64 sh, .int .i64 kind, .int .i64 key]] W fun e w' => e = .returned (.agg #[.int .i64 (Tk3.head ⟨sh, kind, key⟩), .int .i64 (Tk3.pkey ⟨sh, kind, key⟩)]) ∧ Below W.heap.size W w' := fun W => task_Place ⟨sh, kind, key⟩ (by simp only; omega) W
 obtain ⟨hd, hhd⟩ : ∃ hd, Tk3.head ⟨sh, kind, key⟩ = hd := ⟨_, rfl⟩
 obtain ⟨pk, hpk⟩ : ∃ pk, Tk3.pkey ⟨sh, kind, key⟩ = pk := ⟨_, rfl⟩
 simp only [hhd, hpk] at HPL hhr
 have HFN := fun C' W => find_New L hL me hd pk limit hhr C' c W
 have HST : Hid (HpS.search L me (⟨u, no, rounds, limit, at_, found, ⟨sh, kind, key⟩, ⟨g0, ⟨g1, g2, g3⟩, g4, g5, g6, g7, g8⟩, exec, ens, find, cl, prep⟩ : HpS) = (⟨u, no, rounds, limit, 5, found, ⟨sh, kind, key⟩, ⟨g0, ⟨g1, g2, g3⟩, g4, g5, g6, g7, g8⟩, exec, ens, .new L me hd pk limit, cl, prep⟩ : HpS)) := Lib.hid (by unfold HpS.search; simp only [hhd, hpk])
 clear hhd hpk hn hrow hsm
 go_enter Tryz.func144, Tryz.ntmps144
 have fr := Fr.refl C (K0 c) [some 171] w
 have ag := Agr.refl w.heap.size C
 go_wp2_with fail
 revert st; revert sb; revert fr; refine pur (HPL _) ?_; rintro e w1 rfl fr sb st
 have z1 := And.intro sb st
 revert fr sb st; refine bx1 195 #[.int .i64 hd, .int .i64 pk] ?_; rintro w2 epb lpb fr pb sb st
 go_wp2_with fail
 clear epb z1
 revert fr pb sb st; refine drw ?_; intro fr pb sb st
 obtain ⟨q1, q2, q3, qi⟩ := such3 sb st pb
 refine wp_such3 sb st pb 24 [] [0, 1, 2, 3, 4, 5, 6, 7, 8, 9, 10, 11, 12, 13, 14, 15, 16, 17, 18, 19, 20, 21, 22, 23] [24, 25, 26, 27, 28, 29, 30] (by kernel_rfl) (by kernel_rfl) ?_
 refine wpPh_nil ?_; try simp only [ox]
 repeat (go_big_quiet_step (fail))
 refine wpQuiet_nil ?_
 refine wpTail_late _ _ _ (by kernel_rfl) ?_; try simp only [ox]
 clear qi q1 q2 q3
 go_wp2_with fail
 revert ag fr pb sb st; refine newb (HFN C _) ?_; rintro w3 bf C3 ag fr hfi pb sb st
 have z2 := And.intro sb (And.intro st pb)
 revert fr hfi pb st; refine st1 sb 5 (.int .i64 5) (fun _ h => h) ag ?_; clear sb; rintro w4 e1 fr sb hfi pb st
 simp only [sx] at sb
 have z3 := And.intro sb (And.intro st pb)
 revert fr hfi pb st; refine st1 sb 21 (.pointer (some ⟨bf, 0, none⟩)) (fun _ h => h) ag ?_; clear sb; rintro w5 e2 fr sb hfi pb st
 simp only [sx] at sb
 go_wp2_with fail
 refine NoPanic.normal ?_
 go_wp2_with fail
 clear z2 e1 z3 e2
 go_end0
 exact ⟨rfl, ⟨_, ag, by rw [HST.out]; exact ⟨_, _, _, _, _, sb, fun h => by simp at h, fun h => by simp at h, fun _ => ⟨bf, rfl, hfi⟩, fun h => by simp at h, fun h => by simp at h⟩⟩, fr⟩
end Go.Proofs.YtbcnnhlpilmmbaaGreat
