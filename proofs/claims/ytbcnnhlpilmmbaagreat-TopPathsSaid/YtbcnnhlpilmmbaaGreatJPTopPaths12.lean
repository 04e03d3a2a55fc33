/- Texts that are wanted for PTopPaths.
   Conditions: none. -/
import Derived.Test.YtbcnnhlpilmmbaaGreatJPTopPaths11
set_option maxRecDepth 100000
set_option maxHeartbeats 6400000
namespace Go.Proofs.YtbcnnhlpilmmbaaGreat
open Go Go.RowKit
theorem fast_odd_true {w : World} {C : Nat → Nat} {c s sg b : Nat} {L : Ly} {me : Int} {t : StS} {f : FsS} {pf pc pp : Value} (hst : StAt w C s sg L me t) (sb : FsC w C c sg b pf pc pp f) (hmay : f.task.may = true) (hl : f.task.links = true) : Calls Tryz.prog 113 #[.pointer (some ⟨b, 0, none⟩)] w fun e w' => e = .returned (.bool (f.task.links && decide (t.spare = 0))) ∧ Below w.heap.size w w' := by
 obtain ⟨⟨A, n, cap, hn, st, hrow⟩, hme, hsp, hsm⟩ := hst
 unfold FsC at sb
 obtain ⟨⟨rc, ro, rv⟩, failed, tries, ⟨sh, kind, key⟩, most, at_, ⟨g0, ⟨g1, g2, g3⟩, g4, g5, g6, g7, g8⟩, find, cl, prep⟩ := f
 simp only at sb hmay hl ⊢
 have HR : ∀ W, Calls Tryz.prog 57 #[.int .i64 sh, .agg #[.int .i64 kind, .int .i64 key]] W fun e w' => e = .returned (.bool true) ∧ Below W.heap.size W w' := fun W => (task_Right sh kind key W).mono fun e w' h => ⟨h.1.trans (by rw [show Proofs.YtbcnnhlpilmmbaaGreat.may sh ⟨kind, key⟩ = true from hmay]), h.2⟩
 have HL : ∀ W, Calls Tryz.prog 104 #[.agg #[.int .i64 sh, .int .i64 kind, .int .i64 key]] W fun e w' => e = .returned (.bool true) ∧ Below W.heap.size W w' := fun W => (task_Links ⟨sh, kind, key⟩ W).mono fun e w' h => ⟨h.1.trans (by rw [hl]), h.2⟩
 rw [hl]
 have hq : (t.spare == 0) = decide (t.spare = 0) := rfl
 clear hmay hl hn hrow hsm
 go_enter Tryz.func113, Tryz.ntmps113
 have fr := Fr.refl C (fun _ => False) [] w
 have ag := Agr.refl w.heap.size C
 go_wp2_with fail
 revert st; revert sb; revert fr; refine drw ?_; intro fr sb st
 obtain ⟨q1, q2, qi⟩ := such2 sb st
 refine wp_such2 sb st 29 [([0, 1, 2, 3, 4, 5, 6, 7, 8, 9], 10), ([11, 12, 13, 14, 15, 16], 17)] [18, 19, 20, 21, 22, 23, 24, 25, 26, 27, 28] [29] (by kernel_rfl) (by kernel_rfl) ?_
 refine wpPh_cons ?_; simp only [ox]; repeat (go_big_quiet_step (fail))
 refine pho rfl (fun K' hK' => ?_); go_simp
 revert fr sb st; with_reducible refine pur (HR _) ?_; rintro e w1 rfl fr sb st
 refine hK' _ _ (mks2 sb st) ?_; clear hK' K'
 refine wpPh_cons ?_; simp only [ox]; repeat (go_big_quiet_step (fail))
 refine pho rfl (fun K' hK' => ?_); go_simp
 revert fr sb st; with_reducible refine pur (HL _) ?_; rintro e w2 rfl fr sb st
 refine hK' _ _ (mks2 sb st) ?_; clear hK' K'
 refine wpPh_nil ?_; try simp only [ox]
 repeat (go_big_quiet_step (fail))
 refine wpQuiet_nil ?_
 refine wpTail_late _ _ _ (by kernel_rfl) ?_; try simp only [ox]
 clear qi q1 q2
 go_wp2_with fail
 refine NoPanic.normal ?_
 go_wp2_with fail
 go_ret
 exact ⟨rfl, fr.toBel⟩
theorem fast_odd_false {w : World} {C : Nat → Nat} {c s sg b : Nat} {L : Ly} {me : Int} {t : StS} {f : FsS} {pf pc pp : Value} (hst : StAt w C s sg L me t) (sb : FsC w C c sg b pf pc pp f) (hmay : f.task.may = true) (hl : f.task.links = false) : Calls Tryz.prog 113 #[.pointer (some ⟨b, 0, none⟩)] w fun e w' => e = .returned (.bool (f.task.links && decide (t.spare = 0))) ∧ Below w.heap.size w w' := by
 obtain ⟨⟨A, n, cap, hn, st, hrow⟩, hme, hsp, hsm⟩ := hst
 unfold FsC at sb
 obtain ⟨⟨rc, ro, rv⟩, failed, tries, ⟨sh, kind, key⟩, most, at_, ⟨g0, ⟨g1, g2, g3⟩, g4, g5, g6, g7, g8⟩, find, cl, prep⟩ := f
 simp only at sb hmay hl ⊢
 have HR : ∀ W, Calls Tryz.prog 57 #[.int .i64 sh, .agg #[.int .i64 kind, .int .i64 key]] W fun e w' => e = .returned (.bool true) ∧ Below W.heap.size W w' := fun W => (task_Right sh kind key W).mono fun e w' h => ⟨h.1.trans (by rw [show Proofs.YtbcnnhlpilmmbaaGreat.may sh ⟨kind, key⟩ = true from hmay]), h.2⟩
 have HL : ∀ W, Calls Tryz.prog 104 #[.agg #[.int .i64 sh, .int .i64 kind, .int .i64 key]] W fun e w' => e = .returned (.bool false) ∧ Below W.heap.size W w' := fun W => (task_Links ⟨sh, kind, key⟩ W).mono fun e w' h => ⟨h.1.trans (by rw [hl]), h.2⟩
 rw [hl]
 have hq : (t.spare == 0) = decide (t.spare = 0) := rfl
 clear hmay hl hn hrow hsm
 go_enter Tryz.func113, Tryz.ntmps113
 have fr := Fr.refl C (fun _ => False) [] w
 have ag := Agr.refl w.heap.size C
 go_wp2_with fail
 revert st; revert sb; revert fr; refine drw ?_; intro fr sb st
 obtain ⟨q1, q2, qi⟩ := such2 sb st
 refine wp_such2 sb st 29 [([0, 1, 2, 3, 4, 5, 6, 7, 8, 9], 10), ([11, 12, 13, 14, 15, 16], 17)] [18, 19, 20, 21, 22, 23, 24, 25, 26, 27, 28] [29] (by kernel_rfl) (by kernel_rfl) ?_
 refine wpPh_cons ?_; simp only [ox]; repeat (go_big_quiet_step (fail))
 refine pho rfl (fun K' hK' => ?_); go_simp
 revert fr sb st; with_reducible refine pur (HR _) ?_; rintro e w1 rfl fr sb st
 refine hK' _ _ (mks2 sb st) ?_; clear hK' K'
 refine wpPh_cons ?_; simp only [ox]; repeat (go_big_quiet_step (fail))
 refine pho rfl (fun K' hK' => ?_); go_simp
 revert fr sb st; with_reducible refine pur (HL _) ?_; rintro e w2 rfl fr sb st
 refine hK' _ _ (mks2 sb st) ?_; clear hK' K'
 refine wpPh_nil ?_; try simp only [ox]
 repeat (go_big_quiet_step (fail))
 refine wpQuiet_nil ?_
 refine wpTail_late _ _ _ (by kernel_rfl) ?_; try simp only [ox]
 clear qi q1 q2
 go_wp2_with fail
 refine NoPanic.normal ?_
 go_wp2_with fail
 go_ret
 exact ⟨rfl, fr.toBel⟩
theorem fast_odd {w : World} {C : Nat → Nat} {c s sg b : Nat} {L : Ly} {me : Int} {t : StS} {f : FsS} {pf pc pp : Value} (hst : StAt w C s sg L me t) (sb : FsC w C c sg b pf pc pp f) (hmay : f.task.may = true) : Calls Tryz.prog 113 #[.pointer (some ⟨b, 0, none⟩)] w fun e w' => e = .returned (.bool (f.task.links && decide (t.spare = 0))) ∧ Below w.heap.size w w' := by
 cases hl : f.task.links with
 | true => exact hl ▸ fast_odd_true hst sb hmay hl
 | false => exact hl ▸ fast_odd_false hst sb hmay hl
theorem FsAt.tried {w w' : World} {C : Nat → Nat} {c sg b : Nat} {L : Ly} {f : FsS} {k : Int} {pf pc pp : Value} (h : FsAt w C c sg b L f) (hpf : FsC w C c sg b pf pc pp f) (hs : FsC w' C c sg b pf pc pp (f.try_ k)) (hf : Fr C (K0 c) [some 187] w w') : FsAt w' C c sg b L (f.try_ k) := by
 obtain ⟨qf, qc, qp, g1, g2, g3, g4⟩ := h.ex
 have e1 := g1.blk
 have e2 := hpf.blk
 unfold Blk at e1 e2
 rw [e1] at e2
 injection e2 with e2
 injection e2 with e2 _ _
 simp at e2
 obtain ⟨rfl, rfl, rfl⟩ := e2
 exact ⟨qf, qc, qp, hs, fun e => (g2 e).imp fun bf hb => ⟨hb.1, hb.2.fr hf (.inr (by decide))⟩, fun e => (g3 e).imp fun bf hb => ⟨hb.1, hb.2.fr hf (.inr (by decide))⟩, fun e => (g4 e).imp fun bf hb => ⟨hb.1, hb.2.fr hf (.inr (by decide))⟩⟩
theorem fast_again {w : World} {C : Nat → Nat} {c s sg b : Nat} {L : Ly} {me : Int} {t : StS} {f : FsS} (hL : L.Ok) (hst : StAt w C s sg L me t) (h : FsAt w C c sg b L f) (hok : f.Ok 900000) : Calls Tryz.prog 116 #[.pointer (some ⟨b, 0, none⟩)] w (OW C (K0 c) [some 187] (.bool (f.again L me).1) (fun w' C' => FsAt w' C' c sg b L (f.again L me).2) w) := by
 obtain ⟨pf, pc, pp, sb, -, -, -⟩ := h.ex
 obtain ⟨hmay, htr, hmo⟩ := hok
 have HTR := fast_try sb 1 (by omega) (by omega)
 have hok2 : (f.try_ 1).Ok 1000000 := ⟨hmay, by simp only [FsS.try_]; omega, hmo⟩
 have HA := Lib.hid (fun w' hs hf => h.tried (k := 1) (w' := w') sb hs hf)
 have hc := SB.blk sb
 obtain ⟨ov, hov⟩ : ∃ ov, f.over 1 = ov := ⟨_, rfl⟩
 have HST : Hid (f.again L me = if ov then (true, f.try_ 1) else (false, (f.try_ 1).seek L me)) := Lib.hid (by unfold FsS.again; rw [hov])
 rw [hov] at HTR
 clear hov sb h hc
 go_enter Tryz.func116, Tryz.ntmps116
 go_wp2_with fail
 refine HTR.mono ?_
 rintro e w2 ⟨rfl, ⟨C2, -, rfl, sb⟩, hf⟩
 have hA := HA.out w2 sb hf
 replace hst := hst.fr hf (.inr (by decide))
 cases ov
 ·go_wp2_with fail
  refine (fast_seek hL hst sb hok2).mono ?_
  rintro e w3 ⟨rfl, ⟨C3, ag3, own⟩, hf3⟩
  go_wp2_with fail
  go_ret
  exact ⟨by rw [HST.out]; rfl, ⟨C3, fun g hg => ag3 g (Nat.lt_of_lt_of_le hg hf.size), by rw [HST.out]; exact own⟩, hf.trans_ hf3⟩
 ·go_wp2_with fail
  go_ret
  exact ⟨by rw [HST.out]; rfl, ⟨C2, Agr.refl _ _, by rw [HST.out]; exact hA⟩, hf⟩
theorem sl_of_blk {w : World} {g : Nat} {x : Value} (h : Blk w g 3 #[x]) : Sl w w.heap.size 1 (some ⟨g, 0, none⟩) 1 [x] :=
 ⟨by simp, fun _ => rfl, fun _ => h.lt, fun j hj => by
  obtain rfl : j = 0 := by simp at hj; omega
  have := h.cell 0
  simpa [ablk, aoff] using this⟩
def LFd : List (Option TypeId) := [some 187, some 137, some 3]
theorem TSt_LFd : ∀ x, x ∈ TSt → x ∈ LFd := by decide
theorem fast_done_truez {w : World} {C : Nat → Nat} {c s sg b : Nat} {L : Ly} {me : Int} {t : StS} {f : FsS} {pf pc pp : Value} (hst : StAt w C s sg L me t) (sb : FsC w C c sg b pf pc pp f) (_ : t.ret.length ≤ 99000) (hl : f.task.links = true) (hp : f.plan.pops = 0) : Calls Tryz.prog 120 #[.pointer (some ⟨b, 0, none⟩)] w (OW C (Kcs c s) LFd (.tuple #[]) (fun w' C' => StAt w' C' s sg L me (t.did f.task f.plan) ∧ FsC w' C' c sg b pf pc pp { f with res := f.plan.res }) w) := by
 unfold FsC at sb
 obtain ⟨⟨rc, ro, rv⟩, failed, tries, ⟨sh, kind, key⟩, most, at_, ⟨g0, ⟨g1, g2, g3⟩, g4, g5, g6, g7, g8⟩, find, cl, prep⟩ := f
 simp only at sb hl hp
 have HL : ∀ W, Calls Tryz.prog 104 #[.agg #[.int .i64 sh, .int .i64 kind, .int .i64 key]] W fun e w' => e = .returned (.bool true) ∧ Below W.heap.size W w' := fun W => (task_Links ⟨sh, kind, key⟩ W).mono fun e w' h => ⟨h.1.trans (by rw [hl]), h.2⟩
 have HST : Hid (t.did ⟨sh, kind, key⟩ ⟨g0, ⟨g1, g2, g3⟩, g4, g5, g6, g7, g8⟩ = { t with spare := 0 }) := Lib.hid (by unfold StS.did; simp only [hl, hp]; simp)
 subst hp
 clear hl
 go_enter Tryz.func120, Tryz.ntmps120
 have fr := Fr.refl C (Kcs c s) LFd w
 have ag := Agr.refl w.heap.size C
 have z1 := sb
 revert hst; revert fr; refine st1 sb 1 (.int .i64 g1) (Kcs_0 c s) ag ?_; clear sb; rintro w1 e1 fr sb hst
 simp only [sx] at sb
 have z2 := sb
 revert fr hst; refine st1 sb 2 (.bool g2) (Kcs_0 c s) ag ?_; clear sb; rintro w2 e2 fr sb hst
 simp only [sx] at sb
 have z3 := sb
 revert fr hst; refine st1 sb 3 (.int .i64 g3) (Kcs_0 c s) ag ?_; clear sb; rintro w3 e3 fr sb hst
 simp only [sx] at sb
 go_wp2_with fail
 clear z1 e1 z2 e2 z3 e3
 revert fr hst sb; refine pur (HL _) ?_; rintro e w4 rfl fr hst sb
 go_wp2_with fail
 refine (store_Use hst).mono ?_; clear hst; rintro e w5 ⟨rfl, hst, hf⟩
 revert fr sb; refine mvf hf (Kcs_s c s) TSt_LFd ag ?_; clear hf; intro fr sb
 go_wp2_with fail
 go_end0
 exact ⟨rfl, ⟨_, ag, by rw [HST.out]; exact hst, sb⟩, fr⟩
theorem fast_done_truen {w : World} {C : Nat → Nat} {c s sg b : Nat} {L : Ly} {me : Int} {t : StS} {f : FsS} {pf pc pp : Value} (hst : StAt w C s sg L me t) (sb : FsC w C c sg b pf pc pp f) (hle : t.ret.length ≤ 99000) (hl : f.task.links = true) (hp : f.plan.pops ≠ 0 ∧ 0 ≤ f.plan.pops ∧ f.plan.pops ≤ 1000) : Calls Tryz.prog 120 #[.pointer (some ⟨b, 0, none⟩)] w (OW C (Kcs c s) LFd (.tuple #[]) (fun w' C' => StAt w' C' s sg L me (t.did f.task f.plan) ∧ FsC w' C' c sg b pf pc pp { f with res := f.plan.res }) w) := by
 unfold FsC at sb
 obtain ⟨⟨rc, ro, rv⟩, failed, tries, ⟨sh, kind, key⟩, most, at_, ⟨g0, ⟨g1, g2, g3⟩, g4, g5, g6, g7, g8⟩, find, cl, prep⟩ := f
 simp only at sb hl hp
 have HL : ∀ W, Calls Tryz.prog 104 #[.agg #[.int .i64 sh, .int .i64 kind, .int .i64 key]] W fun e w' => e = .returned (.bool true) ∧ Below W.heap.size W w' := fun W => (task_Links ⟨sh, kind, key⟩ W).mono fun e w' h => ⟨h.1.trans (by rw [hl]), h.2⟩
 have HST : Hid (t.did ⟨sh, kind, key⟩ ⟨g0, ⟨g1, g2, g3⟩, g4, g5, g6, g7, g8⟩ = ({ t with spare := 0 } : StS).retire [g8]) := Lib.hid (by unfold StS.did; simp only [hl]; simp [hp.1])
 obtain ⟨hp1, hp2⟩ := hp
 have dp : (g8 != 0) = true := bne_iff_ne.2 hp1
 clear hp1
 clear hl
 go_enter Tryz.func120, Tryz.ntmps120
 have fr := Fr.refl C (Kcs c s) LFd w
 have ag := Agr.refl w.heap.size C
 have z1 := sb
 revert hst; revert fr; refine st1 sb 1 (.int .i64 g1) (Kcs_0 c s) ag ?_; clear sb; rintro w1 e1 fr sb hst
 simp only [sx] at sb
 have z2 := sb
 revert fr hst; refine st1 sb 2 (.bool g2) (Kcs_0 c s) ag ?_; clear sb; rintro w2 e2 fr sb hst
 simp only [sx] at sb
 have z3 := sb
 revert fr hst; refine st1 sb 3 (.int .i64 g3) (Kcs_0 c s) ag ?_; clear sb; rintro w3 e3 fr sb hst
 simp only [sx] at sb
 go_wp2_with fail
 clear z1 e1 z2 e2 z3 e3
 revert fr hst sb; refine pur (HL _) ?_; rintro e w4 rfl fr hst sb
 go_wp2_with fail
 refine (store_Use hst).mono ?_; clear hst; rintro e w5 ⟨rfl, hst, hf⟩
 revert fr sb; refine mvf hf (Kcs_s c s) TSt_LFd ag ?_; clear hf; intro fr sb
 go_wp2_with fail
 revert hst sb; revert fr; refine drw ?_; intro fr hst sb
 obtain ⟨q1, qi⟩ := such1 sb
 refine wp_such1 sb 10 [] [0, 1, 2, 3, 4, 5, 6, 7, 8] [9, 10] (by kernel_rfl) (by kernel_rfl) ?_
 refine wpPh_nil ?_; try simp only [ox]
 repeat (go_big_quiet_step (fail))
 refine wpQuiet_nil ?_
 refine wpTail_early rfl (fun K' hK' => ?_); go_simp
 revert fr hst sb; refine bx1d 3 #[.int .i64 g8] ?_; rintro w6 e1 lsl fr sl hst sb; rw [e1]
 refine hK' _ _ (mks1 sb) ?_; clear hK' K' e1
 refine wpTail_late _ _ _ (by kernel_rfl) ?_; try simp only [ox]
 clear qi q1
 go_wp2_with fail
 have hsl : Sl w6 w6.heap.size 1 (some ⟨w5.heap.size, 0, none⟩) 1 (ivs [g8]) := sl_of_blk sl.blk
 clear sl
 refine (store_Retire hst [g8] _ 1 1 _ hsl rfl (by first | exact Nat.le_trans hle (by omega) | (simp only; omega)) (by omega) (by intro x hx; simp at hx; subst hx; exact hp2)).mono ?_; clear hst; rintro e w7 ⟨rfl, ⟨C7, aG, hst⟩, hf⟩
 revert ag fr sb; refine mvm hf aG (Kcs_s c s) TSt_LFd ?_; clear hf aG; intro ag fr sb
 go_wp2_with fail
 refine NoPanic.normal ?_
 go_wp2_with fail
 go_end0
 exact ⟨rfl, ⟨_, ag, by rw [HST.out]; exact hst, sb⟩, fr⟩
theorem fast_done_falsez {w : World} {C : Nat → Nat} {c s sg b : Nat} {L : Ly} {me : Int} {t : StS} {f : FsS} {pf pc pp : Value} (hst : StAt w C s sg L me t) (sb : FsC w C c sg b pf pc pp f) (_ : t.ret.length ≤ 99000) (hl : f.task.links = false) (hp : f.plan.pops = 0) : Calls Tryz.prog 120 #[.pointer (some ⟨b, 0, none⟩)] w (OW C (Kcs c s) LFd (.tuple #[]) (fun w' C' => StAt w' C' s sg L me (t.did f.task f.plan) ∧ FsC w' C' c sg b pf pc pp { f with res := f.plan.res }) w) := by
 unfold FsC at sb
 obtain ⟨⟨rc, ro, rv⟩, failed, tries, ⟨sh, kind, key⟩, most, at_, ⟨g0, ⟨g1, g2, g3⟩, g4, g5, g6, g7, g8⟩, find, cl, prep⟩ := f
 simp only at sb hl hp
 have HL : ∀ W, Calls Tryz.prog 104 #[.agg #[.int .i64 sh, .int .i64 kind, .int .i64 key]] W fun e w' => e = .returned (.bool false) ∧ Below W.heap.size W w' := fun W => (task_Links ⟨sh, kind, key⟩ W).mono fun e w' h => ⟨h.1.trans (by rw [hl]), h.2⟩
 have HST : Hid (t.did ⟨sh, kind, key⟩ ⟨g0, ⟨g1, g2, g3⟩, g4, g5, g6, g7, g8⟩ = t) := Lib.hid (by unfold StS.did; simp only [hl, hp]; simp)
 subst hp
 clear hl
 go_enter Tryz.func120, Tryz.ntmps120
 have fr := Fr.refl C (Kcs c s) LFd w
 have ag := Agr.refl w.heap.size C
 have z1 := sb
 revert hst; revert fr; refine st1 sb 1 (.int .i64 g1) (Kcs_0 c s) ag ?_; clear sb; rintro w1 e1 fr sb hst
 simp only [sx] at sb
 have z2 := sb
 revert fr hst; refine st1 sb 2 (.bool g2) (Kcs_0 c s) ag ?_; clear sb; rintro w2 e2 fr sb hst
 simp only [sx] at sb
 have z3 := sb
 revert fr hst; refine st1 sb 3 (.int .i64 g3) (Kcs_0 c s) ag ?_; clear sb; rintro w3 e3 fr sb hst
 simp only [sx] at sb
 go_wp2_with fail
 clear z1 e1 z2 e2 z3 e3
 revert fr hst sb; refine pur (HL _) ?_; rintro e w4 rfl fr hst sb
 go_wp2_with fail
 go_end0
 exact ⟨rfl, ⟨_, ag, by rw [HST.out]; exact hst, sb⟩, fr⟩
theorem fast_done_falsen {w : World} {C : Nat → Nat} {c s sg b : Nat} {L : Ly} {me : Int} {t : StS} {f : FsS} {pf pc pp : Value} (hst : StAt w C s sg L me t) (sb : FsC w C c sg b pf pc pp f) (hle : t.ret.length ≤ 99000) (hl : f.task.links = false) (hp : f.plan.pops ≠ 0 ∧ 0 ≤ f.plan.pops ∧ f.plan.pops ≤ 1000) : Calls Tryz.prog 120 #[.pointer (some ⟨b, 0, none⟩)] w (OW C (Kcs c s) LFd (.tuple #[]) (fun w' C' => StAt w' C' s sg L me (t.did f.task f.plan) ∧ FsC w' C' c sg b pf pc pp { f with res := f.plan.res }) w) := by
 unfold FsC at sb
 obtain ⟨⟨rc, ro, rv⟩, failed, tries, ⟨sh, kind, key⟩, most, at_, ⟨g0, ⟨g1, g2, g3⟩, g4, g5, g6, g7, g8⟩, find, cl, prep⟩ := f
 simp only at sb hl hp
 have HL : ∀ W, Calls Tryz.prog 104 #[.agg #[.int .i64 sh, .int .i64 kind, .int .i64 key]] W fun e w' => e = .returned (.bool false) ∧ Below W.heap.size W w' := fun W => (task_Links ⟨sh, kind, key⟩ W).mono fun e w' h => ⟨h.1.trans (by rw [hl]), h.2⟩
 have HST : Hid (t.did ⟨sh, kind, key⟩ ⟨g0, ⟨g1, g2, g3⟩, g4, g5, g6, g7, g8⟩ = t.retire [g8]) := Lib.hid (by unfold StS.did; simp only [hl]; simp [hp.1])
 obtain ⟨hp1, hp2⟩ := hp
 have dp : (g8 != 0) = true := bne_iff_ne.2 hp1
 clear hp1
 clear hl
 go_enter Tryz.func120, Tryz.ntmps120
 have fr := Fr.refl C (Kcs c s) LFd w
 have ag := Agr.refl w.heap.size C
 have z1 := sb
 revert hst; revert fr; refine st1 sb 1 (.int .i64 g1) (Kcs_0 c s) ag ?_; clear sb; rintro w1 e1 fr sb hst
 simp only [sx] at sb
 have z2 := sb
 revert fr hst; refine st1 sb 2 (.bool g2) (Kcs_0 c s) ag ?_; clear sb; rintro w2 e2 fr sb hst
 simp only [sx] at sb
 have z3 := sb
 revert fr hst; refine st1 sb 3 (.int .i64 g3) (Kcs_0 c s) ag ?_; clear sb; rintro w3 e3 fr sb hst
 simp only [sx] at sb
 go_wp2_with fail
 clear z1 e1 z2 e2 z3 e3
 revert fr hst sb; refine pur (HL _) ?_; rintro e w4 rfl fr hst sb
 go_wp2_with fail
 revert fr hst sb; refine drw ?_; intro fr hst sb
 obtain ⟨q1, qi⟩ := such1 sb
 refine wp_such1 sb 10 [] [0, 1, 2, 3, 4, 5, 6, 7, 8] [9, 10] (by kernel_rfl) (by kernel_rfl) ?_
 refine wpPh_nil ?_; try simp only [ox]
 repeat (go_big_quiet_step (fail))
 refine wpQuiet_nil ?_
 refine wpTail_early rfl (fun K' hK' => ?_); go_simp
 revert fr hst sb; refine bx1d 3 #[.int .i64 g8] ?_; rintro w5 e1 lsl fr sl hst sb; rw [e1]
 refine hK' _ _ (mks1 sb) ?_; clear hK' K' e1
 refine wpTail_late _ _ _ (by kernel_rfl) ?_; try simp only [ox]
 clear qi q1
 go_wp2_with fail
 have hsl : Sl w5 w5.heap.size 1 (some ⟨w4.heap.size, 0, none⟩) 1 (ivs [g8]) := sl_of_blk sl.blk
 clear sl
 refine (store_Retire hst [g8] _ 1 1 _ hsl rfl (by first | exact Nat.le_trans hle (by omega) | (simp only; omega)) (by omega) (by intro x hx; simp at hx; subst hx; exact hp2)).mono ?_; clear hst; rintro e w6 ⟨rfl, ⟨C6, aG, hst⟩, hf⟩
 revert ag fr sb; refine mvm hf aG (Kcs_s c s) TSt_LFd ?_; clear hf aG; intro ag fr sb
 go_wp2_with fail
 refine NoPanic.normal ?_
 go_wp2_with fail
 go_end0
 exact ⟨rfl, ⟨_, ag, by rw [HST.out]; exact hst, sb⟩, fr⟩
theorem fast_done {w : World} {C : Nat → Nat} {c s sg b : Nat} {L : Ly} {me : Int} {t : StS} {f : FsS} {pf pc pp : Value} (hst : StAt w C s sg L me t) (sb : FsC w C c sg b pf pc pp f) (hle : t.ret.length ≤ 99000) (hpp : 0 ≤ f.plan.pops ∧ f.plan.pops ≤ 1000) : Calls Tryz.prog 120 #[.pointer (some ⟨b, 0, none⟩)] w (OW C (Kcs c s) LFd (.tuple #[]) (fun w' C' => StAt w' C' s sg L me (t.did f.task f.plan) ∧ FsC w' C' c sg b pf pc pp { f with res := f.plan.res }) w) := by
 by_cases hp : f.plan.pops = 0
 ·cases hl : f.task.links with
  | true => exact fast_done_truez hst sb hle hl hp
  | false => exact fast_done_falsez hst sb hle hl hp
 ·cases hl : f.task.links with
  | true => exact fast_done_truen hst sb hle hl ⟨hp, hpp⟩
  | false => exact fast_done_falsen hst sb hle hl ⟨hp, hpp⟩
theorem planFor_old {t : Tk3} {p : Pos} {spare : Int} (hp : p.Ok) (_ : (planFor t p spare).now = false) : 0 ≤ (planFor t p spare).old ∧ (planFor t p spare).old < 18446744073709551616 := by
 unfold planFor
 split
 ·exact hp.pw
 ·split
  ·exact hp.cw
  ·split
   ·unfold Pos.take
    split
    ·simp [told]
    ·split
     ·exact hp.pw
     ·exact hp.cw
   ·simp [told]
theorem fast_sought_over {w : World} {C : Nat → Nat} {c s sg b : Nat} {L : Ly} {me : Int} {t : StS} {f : FsS} (_ : L.Ok) (hcs : c ≠ s) (hst : StAt w C s sg L me t) (h : FsAt w C c sg b L f) (h0 : f.at_ = 0) (hok : f.Ok 400000) (hfo : f.find.Ok 100000) (hle : t.ret.length ≤ 99000) (ho : f.over f.find.tries = true) : Calls Tryz.prog 114 #[.pointer (some ⟨b, 0, none⟩)] w (OW C (Kcs c s) LFd (.bool (f.sought t).1) (fun w' C' => StAt w' C' s sg L me (f.sought t).2.1 ∧ FsAt w' C' c sg b L (f.sought t).2.2) w) := by
 obtain ⟨pf, pc, pp, sb, h1, h2, h3⟩ := h.ex
 obtain ⟨bf, rfl, hfi⟩ := h1 h0
 obtain ⟨hmay, htr, hmo⟩ := hok
 unfold FsC at sb
 obtain ⟨⟨rc, ro, rv⟩, failed, tries, ⟨sh, kind, key⟩, most, at_, ⟨g0, ⟨g1, g2, g3⟩, g4, g5, g6, g7, g8⟩, fi_, cl, prep⟩ := f
 simp only at sb h0 hfi hmay htr hmo hfo ho ⊢
 subst h0
 obtain ⟨pc1, hfc, -⟩ := hfi.ex
 obtain ⟨A1, n1, cap1, hn1, fi, hrow1⟩ := hfc.ex
 have hfo2 := hfo.unl
 have hft := hfo.tries
 have HSL := Lib.hid hrow1
 have HN1 := Lib.hid hn1
 have HFO := Lib.hid hfo2.1
 have hn1le : n1 ≤ 100000 := by omega
 have hK : ¬ K0 s c := fun e => hcs e
 have HST : Hid (FsS.sought t (⟨⟨rc, ro, rv⟩, failed, tries, ⟨sh, kind, key⟩, most, 0, ⟨g0, ⟨g1, g2, g3⟩, g4, g5, g6, g7, g8⟩, fi_, cl, prep⟩ : FsS) = (true, t.retire fi_.unl, FsS.try_ (⟨⟨rc, ro, rv⟩, failed, tries, ⟨sh, kind, key⟩, most, 0, ⟨g0, ⟨g1, g2, g3⟩, g4, g5, g6, g7, g8⟩, fi_, cl, prep⟩ : FsS) fi_.tries)) := Lib.hid (by unfold FsS.sought; simp only; rw [if_pos ho])
 have HTS : Hid (FsS.try_ (⟨⟨rc, ro, rv⟩, failed, tries, ⟨sh, kind, key⟩, most, 0, ⟨g0, ⟨g1, g2, g3⟩, g4, g5, g6, g7, g8⟩, fi_, cl, prep⟩ : FsS) fi_.tries = (⟨⟨rc, ro, rv⟩, true, tries + fi_.tries, ⟨sh, kind, key⟩, most, 0, ⟨g0, ⟨g1, g2, g3⟩, g4, g5, g6, g7, g8⟩, fi_, cl, prep⟩ : FsS)) := Lib.hid (by unfold FsS.try_; rw [ho])
 have HTR := fun W C' (k : FsC W C' c sg b (.pointer (some ⟨bf, 0, none⟩)) pc pp (⟨⟨rc, ro, rv⟩, failed, tries, ⟨sh, kind, key⟩, most, 0, ⟨g0, ⟨g1, g2, g3⟩, g4, g5, g6, g7, g8⟩, fi_, cl, prep⟩ : FsS)) => fast_try k fi_.tries (by omega) (by simp only; omega)
 rw [ho] at HTR
 have HOV : Hid (FsS.over (⟨⟨rc, ro, rv⟩, failed, tries, ⟨sh, kind, key⟩, most, 0, ⟨g0, ⟨g1, g2, g3⟩, g4, g5, g6, g7, g8⟩, fi_, cl, prep⟩ : FsS) fi_.tries = true) := Lib.hid ho
 clear ho hfo hfo2 hn1 hrow1 h h1 h2 h3 hfc
 go_enter Tryz.func114, Tryz.ntmps114
 have fr := Fr.refl C (Kcs c s) LFd w
 have ag := Agr.refl w.heap.size C
 go_wp2_with fail
 revert fi; revert hfi; revert hst; revert sb; revert fr; refine drw ?_; intro fr sb hst hfi fi
 obtain ⟨q1, q2, qi⟩ := such2 sb fi
 refine wp_such2 sb fi 11 [] [0, 1, 2, 3, 4, 5, 6, 7, 8, 9, 10] [11] (by kernel_rfl) (by kernel_rfl) ?_
 refine wpPh_nil ?_; try simp only [ox]
 repeat (go_big_quiet_step (fail))
 refine wpQuiet_nil ?_
 refine wpTail_late _ _ _ (by kernel_rfl) ?_; try simp only [ox]
 clear qi q1 q2
 go_wp2_with fail
 have hsl := (Sl.of_own HSL.out.own).step (Nat.le_refl _) (Below.refl w.heap.size w).drew
 refine (store_Retire hst fi_.unl A1 n1 cap1 _ hsl HN1.out (by omega) hn1le HFO.out).mono ?_; clear hst; rintro e w1 ⟨rfl, ⟨C1, aG, hst⟩, hf⟩
 replace hfi := hfi.mv hf aG (.inl hK)
 revert ag fr sb fi; refine mvm hf aG (Kcs_s c s) TSt_LFd ?_; clear hf aG; intro ag fr sb fi
 clear hsl
 go_wp2_with fail
 refine NoPanic.normal ?_
 go_wp2_with fail
 refine (HTR _ _ sb).mono ?_
 rintro e w2 ⟨rfl, ⟨C9, -, hC9, sb9⟩, hf9⟩
 try rw [hC9] at sb9
 clear hC9
 replace fr := fr.trans (hf9.mono (Kcs_0 c s) (by decide)) ag
 replace hst := hst.fr hf9 (.inr (by decide))
 replace hfi := hfi.fr hf9 (.inr (by decide))
 replace fi := fi.fr hf9 (.inr (by decide))
 have sbx : SB w2 C1 c b 187 #[.pointer (some ⟨sg, 0, none⟩), .int .i64 rc, .bool ro, .int .i64 rv, .bool true, .int .i64 (tries + fi_.tries), .int .i64 sh, .int .i64 kind, .int .i64 key, .int .i64 most, .int .i64 0, .bool g0, .int .i64 g1, .bool g2, .int .i64 g3, .int .i64 g4, .int .u64 g5, .int .i64 g6, .bool g7, .int .i64 g8, .pointer (some ⟨bf, 0, none⟩), pc, pp] := by
  have := sb9
  unfold FsC FsS.try_ at this
  simpa [HOV.out] using this
 replace sb := sbx
 clear sb9 sbx hf9
 go_wp2_with fail
 go_ret
 exact ⟨by rw [HST.out]; rfl, ⟨_, ag, by rw [HST.out, HTS.out]; exact ⟨hst, ⟨_, _, _, sb, fun _ => ⟨bf, rfl, hfi⟩, fun h => by simp at h, fun h => by simp at h⟩⟩⟩, fr⟩
theorem fast_sought_now {w : World} {C : Nat → Nat} {c s sg b : Nat} {L : Ly} {me : Int} {t : StS} {f : FsS} (_ : L.Ok) (hcs : c ≠ s) (hst : StAt w C s sg L me t) (h : FsAt w C c sg b L f) (h0 : f.at_ = 0) (hok : f.Ok 400000) (hfo : f.find.Ok 100000) (hle : t.ret.length ≤ 99000) (ho : f.over f.find.tries = false) (hn0 : (planFor f.task f.find.pos t.spare).now = true) : Calls Tryz.prog 114 #[.pointer (some ⟨b, 0, none⟩)] w (OW C (Kcs c s) LFd (.bool (f.sought t).1) (fun w' C' => StAt w' C' s sg L me (f.sought t).2.1 ∧ FsAt w' C' c sg b L (f.sought t).2.2) w) := by
 obtain ⟨pf, pc, pp, sb, h1, h2, h3⟩ := h.ex
 obtain ⟨bf, rfl, hfi⟩ := h1 h0
 obtain ⟨hmay, htr, hmo⟩ := hok
 unfold FsC at sb
 obtain ⟨⟨rc, ro, rv⟩, failed, tries, ⟨sh, kind, key⟩, most, at_, ⟨g0, ⟨g1, g2, g3⟩, g4, g5, g6, g7, g8⟩, fi_, cl, prep⟩ := f
 simp only at sb h0 hfi hmay htr hmo hfo ho hn0 ⊢
 subst h0
 obtain ⟨pc1, hfc, -⟩ := hfi.ex
 obtain ⟨A1, n1, cap1, hn1, fi, hrow1⟩ := hfc.ex
 have hfo2 := hfo.unl
 have hft := hfo.tries
 have HSL := Lib.hid hrow1
 have HN1 := Lib.hid hn1
 have HFO := Lib.hid hfo2.1
 have hn1le : n1 ≤ 100000 := by omega
 have hK : ¬ K0 s c := fun e => hcs e
 have hp : fi_.pos.Ok := ⟨hfo.pw, hfo.cw⟩
 have HFOR := fun W => gen_For ⟨sh, kind, key⟩ fi_.pos t.spare hp hmay W
 have hold := fun (h : (planFor ⟨sh, kind, key⟩ fi_.pos t.spare).now = false) => planFor_old (t := ⟨sh, kind, key⟩) (spare := t.spare) hp h
 obtain ⟨P, hP⟩ : ∃ P, planFor ⟨sh, kind, key⟩ fi_.pos t.spare = P := ⟨_, rfl⟩
 simp only [hP] at HFOR hn0 hold
 have HST : Hid (FsS.sought t (⟨⟨rc, ro, rv⟩, failed, tries, ⟨sh, kind, key⟩, most, 0, ⟨g0, ⟨g1, g2, g3⟩, g4, g5, g6, g7, g8⟩, fi_, cl, prep⟩ : FsS) = (true, t.retire fi_.unl, (⟨P.res, false, tries + fi_.tries, ⟨sh, kind, key⟩, most, 0, P, fi_, cl, prep⟩ : FsS))) := Lib.hid (by unfold FsS.sought; simp only [hP]; rw [if_neg (by rw [ho]; decide)]; rw [if_pos hn0]; simp only [FsS.try_, ho])
 clear hP hold
 obtain ⟨p0, ⟨p1, p2, p3⟩, p4, p5, p6, p7, p8⟩ := P
 simp only at hn0
 subst hn0
 simp only [PlS.val] at HFOR
 have HTR := fun W C' (k : FsC W C' c sg b (.pointer (some ⟨bf, 0, none⟩)) pc pp (⟨⟨rc, ro, rv⟩, failed, tries, ⟨sh, kind, key⟩, most, 0, ⟨g0, ⟨g1, g2, g3⟩, g4, g5, g6, g7, g8⟩, fi_, cl, prep⟩ : FsS)) => fast_try k fi_.tries (by omega) (by simp only; omega)
 rw [ho] at HTR
 have HOV : Hid (FsS.over (⟨⟨rc, ro, rv⟩, failed, tries, ⟨sh, kind, key⟩, most, 0, ⟨g0, ⟨g1, g2, g3⟩, g4, g5, g6, g7, g8⟩, fi_, cl, prep⟩ : FsS) fi_.tries = false) := Lib.hid ho
 clear ho hfo hfo2 hn1 hrow1 h h1 h2 h3 hfc
 go_enter Tryz.func114, Tryz.ntmps114
 have fr := Fr.refl C (Kcs c s) LFd w
 have ag := Agr.refl w.heap.size C
 go_wp2_with fail
 revert fi; revert hfi; revert hst; revert sb; revert fr; refine drw ?_; intro fr sb hst hfi fi
 obtain ⟨q1, q2, qi⟩ := such2 sb fi
 refine wp_such2 sb fi 11 [] [0, 1, 2, 3, 4, 5, 6, 7, 8, 9, 10] [11] (by kernel_rfl) (by kernel_rfl) ?_
 refine wpPh_nil ?_; try simp only [ox]
 repeat (go_big_quiet_step (fail))
 refine wpQuiet_nil ?_
 refine wpTail_late _ _ _ (by kernel_rfl) ?_; try simp only [ox]
 clear qi q1 q2
 go_wp2_with fail
 have hsl := (Sl.of_own HSL.out.own).step (Nat.le_refl _) (Below.refl w.heap.size w).drew
 refine (store_Retire hst fi_.unl A1 n1 cap1 _ hsl HN1.out (by omega) hn1le HFO.out).mono ?_; clear hst; rintro e w1 ⟨rfl, ⟨C1, aG, hst⟩, hf⟩
 replace hfi := hfi.mv hf aG (.inl hK)
 revert ag fr sb fi; refine mvm hf aG (Kcs_s c s) TSt_LFd ?_; clear hf aG; intro ag fr sb fi
 clear hsl
 go_wp2_with fail
 refine NoPanic.normal ?_
 go_wp2_with fail
 refine (HTR _ _ sb).mono ?_
 rintro e w2 ⟨rfl, ⟨C9, -, hC9, sb9⟩, hf9⟩
 try rw [hC9] at sb9
 clear hC9
 replace fr := fr.trans (hf9.mono (Kcs_0 c s) (by decide)) ag
 replace hst := hst.fr hf9 (.inr (by decide))
 replace hfi := hfi.fr hf9 (.inr (by decide))
 replace fi := fi.fr hf9 (.inr (by decide))
 have sbx : SB w2 C1 c b 187 #[.pointer (some ⟨sg, 0, none⟩), .int .i64 rc, .bool ro, .int .i64 rv, .bool false, .int .i64 (tries + fi_.tries), .int .i64 sh, .int .i64 kind, .int .i64 key, .int .i64 most, .int .i64 0, .bool g0, .int .i64 g1, .bool g2, .int .i64 g3, .int .i64 g4, .int .u64 g5, .int .i64 g6, .bool g7, .int .i64 g8, .pointer (some ⟨bf, 0, none⟩), pc, pp] := by
  have := sb9
  unfold FsC FsS.try_ at this
  simpa [HOV.out] using this
 replace sb := sbx
 clear sb9 sbx hf9
 go_wp2_with fail
 obtain ⟨A, n, cap, hn, st, hrow⟩ := hst.ex
 clear hn hrow
 revert st; revert fi; revert hfi; revert hst; revert sb; revert fr; refine drw ?_; intro fr sb hst hfi fi st
 obtain ⟨q1, q2, q3, qi⟩ := such3 sb fi st
 refine wp_such3 sb fi st 19 [] [0, 1, 2, 3, 4, 5, 6, 7, 8, 9, 10, 11, 12, 13, 14, 15, 16, 17, 18] [19, 20, 21, 22] (by kernel_rfl) (by kernel_rfl) ?_
 refine wpPh_nil ?_; try simp only [ox]
 repeat (go_big_quiet_step (fail))
 refine wpQuiet_nil ?_
 refine wpTail_late _ _ _ (by kernel_rfl) ?_; try simp only [ox]
 clear qi q1 q2 q3
 go_wp2_with fail
 revert fr sb hst hfi fi st; refine pur (HFOR _) ?_; rintro e w3 rfl fr sb hst hfi fi st
 have z1 := And.intro sb (And.intro fi st)
 have hR := stR
 revert fr hst hfi fi st; refine sts sb [(11, .bool true), (12, .int .i64 p1), (13, .bool p2), (14, .int .i64 p3), (15, .int .i64 p4), (16, .int .u64 p5), (17, .int .i64 p6), (18, .bool p7), (19, .int .i64 p8)] (Kcs_0 c s) ag ?_; clear sb; rintro w4 e1 fr sb hst hfi fi st
 simp only [stx, sx] at e1 sb
 go_wp2_with fail
 refine NoPanic.normal ?_
 go_wp2_with fail
 clear z1 e1 hR
 have z2 := And.intro sb (And.intro fi st)
 revert fr hst hfi fi st; refine st1 sb 1 (.int .i64 p1) (Kcs_0 c s) ag ?_; clear sb; rintro w5 e1 fr sb hst hfi fi st
 simp only [sx] at sb
 have z3 := And.intro sb (And.intro fi st)
 revert fr hst hfi fi st; refine st1 sb 2 (.bool p2) (Kcs_0 c s) ag ?_; clear sb; rintro w6 e2 fr sb hst hfi fi st
 simp only [sx] at sb
 have z4 := And.intro sb (And.intro fi st)
 revert fr hst hfi fi st; refine st1 sb 3 (.int .i64 p3) (Kcs_0 c s) ag ?_; clear sb; rintro w7 e3 fr sb hst hfi fi st
 simp only [sx] at sb
 go_wp2_with fail
 simp only [e1, e2, e3]
 clear z2 e1 z3 e2 z4 e3
 go_ret
 exact ⟨by rw [HST.out]; rfl, ⟨_, ag, by rw [HST.out]; exact ⟨hst, ⟨_, _, _, sb, fun _ => ⟨bf, rfl, hfi⟩, fun h => by simp at h, fun h => by simp at h⟩⟩⟩, fr⟩
theorem fast_sought_cl {w : World} {C : Nat → Nat} {c s sg b : Nat} {L : Ly} {me : Int} {t : StS} {f : FsS} (_ : L.Ok) (hcs : c ≠ s) (hst : StAt w C s sg L me t) (h : FsAt w C c sg b L f) (h0 : f.at_ = 0) (hok : f.Ok 400000) (hfo : f.find.Ok 100000) (hle : t.ret.length ≤ 99000) (ho : f.over f.find.tries = false) (hn0 : (planFor f.task f.find.pos t.spare).now = false) (hcl : (planFor f.task f.find.pos t.spare).claimed = true) : Calls Tryz.prog 114 #[.pointer (some ⟨b, 0, none⟩)] w (OW C (Kcs c s) LFd (.bool (f.sought t).1) (fun w' C' => StAt w' C' s sg L me (f.sought t).2.1 ∧ FsAt w' C' c sg b L (f.sought t).2.2) w) := by
 obtain ⟨pf, pc, pp, sb, h1, h2, h3⟩ := h.ex
 obtain ⟨bf, rfl, hfi⟩ := h1 h0
 obtain ⟨hmay, htr, hmo⟩ := hok
 unfold FsC at sb
 obtain ⟨⟨rc, ro, rv⟩, failed, tries, ⟨sh, kind, key⟩, most, at_, ⟨g0, ⟨g1, g2, g3⟩, g4, g5, g6, g7, g8⟩, fi_, cl, prep⟩ := f
 simp only at sb h0 hfi hmay htr hmo hfo ho hn0 hcl ⊢
 subst h0
 obtain ⟨pc1, hfc, -⟩ := hfi.ex
 obtain ⟨A1, n1, cap1, hn1, fi, hrow1⟩ := hfc.ex
 have hfo2 := hfo.unl
 have hft := hfo.tries
 have HSL := Lib.hid hrow1
 have HN1 := Lib.hid hn1
 have HFO := Lib.hid hfo2.1
 have hn1le : n1 ≤ 100000 := by omega
 have hK : ¬ K0 s c := fun e => hcs e
 have hp : fi_.pos.Ok := ⟨hfo.pw, hfo.cw⟩
 have HFOR := fun W => gen_For ⟨sh, kind, key⟩ fi_.pos t.spare hp hmay W
 have hold := fun (h : (planFor ⟨sh, kind, key⟩ fi_.pos t.spare).now = false) => planFor_old (t := ⟨sh, kind, key⟩) (spare := t.spare) hp h
 obtain ⟨P, hP⟩ : ∃ P, planFor ⟨sh, kind, key⟩ fi_.pos t.spare = P := ⟨_, rfl⟩
 simp only [hP] at HFOR hn0 hcl hold
 have HST : Hid (FsS.sought t (⟨⟨rc, ro, rv⟩, failed, tries, ⟨sh, kind, key⟩, most, 0, ⟨g0, ⟨g1, g2, g3⟩, g4, g5, g6, g7, g8⟩, fi_, cl, prep⟩ : FsS) = (false, t.retire fi_.unl, (⟨⟨rc, ro, rv⟩, false, tries + fi_.tries, ⟨sh, kind, key⟩, most, 1, P, fi_, .new P.addr, prep⟩ : FsS))) := Lib.hid (by unfold FsS.sought; simp only [hP]; rw [if_neg (by rw [ho]; decide)]; rw [if_neg (by rw [hn0]; decide), if_pos hcl]; simp only [FsS.try_, ho])
 have hold2 := hold hn0
 have HCLM := fun W => plan_Claimed P hold2 W
 rw [hcl] at HCLM
 clear hP hold
 obtain ⟨p0, ⟨p1, p2, p3⟩, p4, p5, p6, p7, p8⟩ := P
 simp only at hn0
 subst hn0
 simp only [PlS.val] at HFOR HCLM
 have HTR := fun W C' (k : FsC W C' c sg b (.pointer (some ⟨bf, 0, none⟩)) pc pp (⟨⟨rc, ro, rv⟩, failed, tries, ⟨sh, kind, key⟩, most, 0, ⟨g0, ⟨g1, g2, g3⟩, g4, g5, g6, g7, g8⟩, fi_, cl, prep⟩ : FsS)) => fast_try k fi_.tries (by omega) (by simp only; omega)
 rw [ho] at HTR
 have HOV : Hid (FsS.over (⟨⟨rc, ro, rv⟩, failed, tries, ⟨sh, kind, key⟩, most, 0, ⟨g0, ⟨g1, g2, g3⟩, g4, g5, g6, g7, g8⟩, fi_, cl, prep⟩ : FsS) fi_.tries = false) := Lib.hid ho
 clear ho hfo hfo2 hn1 hrow1 h h1 h2 h3 hfc hcl
 go_enter Tryz.func114, Tryz.ntmps114
 have fr := Fr.refl C (Kcs c s) LFd w
 have ag := Agr.refl w.heap.size C
 go_wp2_with fail
 revert fi; revert hfi; revert hst; revert sb; revert fr; refine drw ?_; intro fr sb hst hfi fi
 obtain ⟨q1, q2, qi⟩ := such2 sb fi
 refine wp_such2 sb fi 11 [] [0, 1, 2, 3, 4, 5, 6, 7, 8, 9, 10] [11] (by kernel_rfl) (by kernel_rfl) ?_
 refine wpPh_nil ?_; try simp only [ox]
 repeat (go_big_quiet_step (fail))
 refine wpQuiet_nil ?_
 refine wpTail_late _ _ _ (by kernel_rfl) ?_; try simp only [ox]
 clear qi q1 q2
 go_wp2_with fail
 have hsl := (Sl.of_own HSL.out.own).step (Nat.le_refl _) (Below.refl w.heap.size w).drew
 refine (store_Retire hst fi_.unl A1 n1 cap1 _ hsl HN1.out (by omega) hn1le HFO.out).mono ?_; clear hst; rintro e w1 ⟨rfl, ⟨C1, aG, hst⟩, hf⟩
 replace hfi := hfi.mv hf aG (.inl hK)
 revert ag fr sb fi; refine mvm hf aG (Kcs_s c s) TSt_LFd ?_; clear hf aG; intro ag fr sb fi
 clear hsl
 go_wp2_with fail
 refine NoPanic.normal ?_
 go_wp2_with fail
 refine (HTR _ _ sb).mono ?_
 rintro e w2 ⟨rfl, ⟨C9, -, hC9, sb9⟩, hf9⟩
 try rw [hC9] at sb9
 clear hC9
 replace fr := fr.trans (hf9.mono (Kcs_0 c s) (by decide)) ag
 replace hst := hst.fr hf9 (.inr (by decide))
 replace hfi := hfi.fr hf9 (.inr (by decide))
 replace fi := fi.fr hf9 (.inr (by decide))
 have sbx : SB w2 C1 c b 187 #[.pointer (some ⟨sg, 0, none⟩), .int .i64 rc, .bool ro, .int .i64 rv, .bool false, .int .i64 (tries + fi_.tries), .int .i64 sh, .int .i64 kind, .int .i64 key, .int .i64 most, .int .i64 0, .bool g0, .int .i64 g1, .bool g2, .int .i64 g3, .int .i64 g4, .int .u64 g5, .int .i64 g6, .bool g7, .int .i64 g8, .pointer (some ⟨bf, 0, none⟩), pc, pp] := by
  have := sb9
  unfold FsC FsS.try_ at this
  simpa [HOV.out] using this
 replace sb := sbx
 clear sb9 sbx hf9
 go_wp2_with fail
 obtain ⟨A, n, cap, hn, st, hrow⟩ := hst.ex
 clear hn hrow
 revert st; revert fi; revert hfi; revert hst; revert sb; revert fr; refine drw ?_; intro fr sb hst hfi fi st
 obtain ⟨q1, q2, q3, qi⟩ := such3 sb fi st
 refine wp_such3 sb fi st 19 [] [0, 1, 2, 3, 4, 5, 6, 7, 8, 9, 10, 11, 12, 13, 14, 15, 16, 17, 18] [19, 20, 21, 22] (by kernel_rfl) (by kernel_rfl) ?_
 refine wpPh_nil ?_; try simp only [ox]
 repeat (go_big_quiet_step (fail))
 refine wpQuiet_nil ?_
 refine wpTail_late _ _ _ (by kernel_rfl) ?_; try simp only [ox]
 clear qi q1 q2 q3
 go_wp2_with fail
 revert fr sb hst hfi fi st; refine pur (HFOR _) ?_; rintro e w3 rfl fr sb hst hfi fi st
 have z1 := And.intro sb (And.intro fi st)
 have hR := stR
 revert fr hst hfi fi st; refine sts sb [(11, .bool false), (12, .int .i64 p1), (13, .bool p2), (14, .int .i64 p3), (15, .int .i64 p4), (16, .int .u64 p5), (17, .int .i64 p6), (18, .bool p7), (19, .int .i64 p8)] (Kcs_0 c s) ag ?_; clear sb; rintro w4 e1 fr sb hst hfi fi st
 simp only [stx, sx] at e1 sb
 go_wp2_with fail
 refine NoPanic.normal ?_
 go_wp2_with fail
 clear z1 e1 hR
 revert fr hst hfi fi st sb; refine pur (HCLM _) ?_; rintro e w5 rfl fr hst hfi fi st sb
 go_wp2_with fail
 revert fr hst hfi fi st sb; refine drw ?_; intro fr hst hfi fi st sb
 obtain ⟨q1, q2, q3, qi⟩ := such3 sb fi st
 refine wp_such3 sb fi st 14 [] [0, 1, 2, 3, 4, 5, 6, 7, 8, 9, 10, 11, 12, 13] [14, 15, 16, 17, 18, 19, 20] (by kernel_rfl) (by kernel_rfl) ?_
 refine wpPh_nil ?_; try simp only [ox]
 repeat (go_big_quiet_step (fail))
 refine wpQuiet_nil ?_
 refine wpTail_late _ _ _ (by kernel_rfl) ?_; try simp only [ox]
 clear qi q1 q2 q3
 go_wp2_with fail
 revert ag fr hst hfi fi st sb; refine newb (clear_New L p4 C1 c _) ?_; rintro w6 bc C6 ag fr hcl hst hfi fi st sb
 have z2 := And.intro sb (And.intro fi st)
 revert fr hcl hst hfi fi st; refine st1 sb 10 (.int .i64 1) (Kcs_0 c s) ag ?_; clear sb; rintro w7 e1 fr sb hcl hst hfi fi st
 simp only [sx] at sb
 have z3 := And.intro sb (And.intro fi st)
 revert fr hcl hst hfi fi st; refine st1 sb 21 (.pointer (some ⟨bc, 0, none⟩)) (Kcs_0 c s) ag ?_; clear sb; rintro w8 e2 fr sb hcl hst hfi fi st
 simp only [sx] at sb
 go_wp2_with fail
 refine NoPanic.normal ?_
 go_wp2_with fail
 clear z2 e1 z3 e2
 go_ret
 exact ⟨by rw [HST.out]; rfl, ⟨_, ag, by rw [HST.out]; exact ⟨hst, ⟨_, _, _, sb, fun h => by simp at h, fun _ => ⟨bc, rfl, hcl⟩, fun h => by simp at h⟩⟩⟩, fr⟩
theorem fast_sought_lk {w : World} {C : Nat → Nat} {c s sg b : Nat} {L : Ly} {me : Int} {t : StS} {f : FsS} (_ : L.Ok) (hcs : c ≠ s) (hst : StAt w C s sg L me t) (h : FsAt w C c sg b L f) (h0 : f.at_ = 0) (hok : f.Ok 400000) (hfo : f.find.Ok 100000) (hle : t.ret.length ≤ 99000) (ho : f.over f.find.tries = false) (hn0 : (planFor f.task f.find.pos t.spare).now = false) (hcl : (planFor f.task f.find.pos t.spare).claimed = false) (hlk : f.task.links = true) : Calls Tryz.prog 114 #[.pointer (some ⟨b, 0, none⟩)] w (OW C (Kcs c s) LFd (.bool (f.sought t).1) (fun w' C' => StAt w' C' s sg L me (f.sought t).2.1 ∧ FsAt w' C' c sg b L (f.sought t).2.2) w) := by
 obtain ⟨pf, pc, pp, sb, h1, h2, h3⟩ := h.ex
 obtain ⟨bf, rfl, hfi⟩ := h1 h0
 obtain ⟨hmay, htr, hmo⟩ := hok
 unfold FsC at sb
 obtain ⟨⟨rc, ro, rv⟩, failed, tries, ⟨sh, kind, key⟩, most, at_, ⟨g0, ⟨g1, g2, g3⟩, g4, g5, g6, g7, g8⟩, fi_, cl, prep⟩ := f
 simp only at sb h0 hfi hmay htr hmo hfo ho hn0 hcl hlk ⊢
 subst h0
 obtain ⟨pc1, hfc, -⟩ := hfi.ex
 obtain ⟨A1, n1, cap1, hn1, fi, hrow1⟩ := hfc.ex
 have hfo2 := hfo.unl
 have hft := hfo.tries
 have HSL := Lib.hid hrow1
 have HN1 := Lib.hid hn1
 have HFO := Lib.hid hfo2.1
 have hn1le : n1 ≤ 100000 := by omega
 have hK : ¬ K0 s c := fun e => hcs e
 have hp : fi_.pos.Ok := ⟨hfo.pw, hfo.cw⟩
 have HFOR := fun W => gen_For ⟨sh, kind, key⟩ fi_.pos t.spare hp hmay W
 have hold := fun (h : (planFor ⟨sh, kind, key⟩ fi_.pos t.spare).now = false) => planFor_old (t := ⟨sh, kind, key⟩) (spare := t.spare) hp h
 obtain ⟨P, hP⟩ : ∃ P, planFor ⟨sh, kind, key⟩ fi_.pos t.spare = P := ⟨_, rfl⟩
 simp only [hP] at HFOR hn0 hcl hold
 have HST : Hid (FsS.sought t (⟨⟨rc, ro, rv⟩, failed, tries, ⟨sh, kind, key⟩, most, 0, ⟨g0, ⟨g1, g2, g3⟩, g4, g5, g6, g7, g8⟩, fi_, cl, prep⟩ : FsS) = (false, t.retire fi_.unl, (⟨⟨rc, ro, rv⟩, false, tries + fi_.tries, ⟨sh, kind, key⟩, most, 2, P, fi_, cl, .new key fi_.pos.curr⟩ : FsS))) := Lib.hid (by unfold FsS.sought; simp only [hP]; rw [if_neg (by rw [ho]; decide)]; rw [if_neg (by rw [hn0]; decide), if_neg (by rw [hcl]; decide), if_pos hlk]; simp only [FsS.try_, ho])
 have hold2 := hold hn0
 have HCLM := fun W => plan_Claimed P hold2 W
 rw [hcl] at HCLM
 have HLI : ∀ W, Calls Tryz.prog 104 #[.agg #[.int .i64 sh, .int .i64 kind, .int .i64 key]] W fun e w' => e = .returned (.bool true) ∧ Below W.heap.size W w' := fun W => (task_Links ⟨sh, kind, key⟩ W).mono fun e w' h => ⟨h.1.trans (by rw [hlk]), h.2⟩
 clear hP hold
 obtain ⟨p0, ⟨p1, p2, p3⟩, p4, p5, p6, p7, p8⟩ := P
 simp only at hn0
 subst hn0
 simp only [PlS.val] at HFOR HCLM
 have HTR := fun W C' (k : FsC W C' c sg b (.pointer (some ⟨bf, 0, none⟩)) pc pp (⟨⟨rc, ro, rv⟩, failed, tries, ⟨sh, kind, key⟩, most, 0, ⟨g0, ⟨g1, g2, g3⟩, g4, g5, g6, g7, g8⟩, fi_, cl, prep⟩ : FsS)) => fast_try k fi_.tries (by omega) (by simp only; omega)
 rw [ho] at HTR
 have HOV : Hid (FsS.over (⟨⟨rc, ro, rv⟩, failed, tries, ⟨sh, kind, key⟩, most, 0, ⟨g0, ⟨g1, g2, g3⟩, g4, g5, g6, g7, g8⟩, fi_, cl, prep⟩ : FsS) fi_.tries = false) := Lib.hid ho
 clear ho hfo hfo2 hn1 hrow1 h h1 h2 h3 hfc hcl hlk
 go_enter Tryz.func114, Tryz.ntmps114
 have fr := Fr.refl C (Kcs c s) LFd w
 have ag := Agr.refl w.heap.size C
 go_wp2_with fail
 revert fi; revert hfi; revert hst; revert sb; revert fr; refine drw ?_; intro fr sb hst hfi fi
 obtain ⟨q1, q2, qi⟩ := such2 sb fi
 refine wp_such2 sb fi 11 [] [0, 1, 2, 3, 4, 5, 6, 7, 8, 9, 10] [11] (by kernel_rfl) (by kernel_rfl) ?_
 refine wpPh_nil ?_; try simp only [ox]
 repeat (go_big_quiet_step (fail))
 refine wpQuiet_nil ?_
 refine wpTail_late _ _ _ (by kernel_rfl) ?_; try simp only [ox]
 clear qi q1 q2
 go_wp2_with fail
 have hsl := (Sl.of_own HSL.out.own).step (Nat.le_refl _) (Below.refl w.heap.size w).drew
 refine (store_Retire hst fi_.unl A1 n1 cap1 _ hsl HN1.out (by omega) hn1le HFO.out).mono ?_; clear hst; rintro e w1 ⟨rfl, ⟨C1, aG, hst⟩, hf⟩
 replace hfi := hfi.mv hf aG (.inl hK)
 revert ag fr sb fi; refine mvm hf aG (Kcs_s c s) TSt_LFd ?_; clear hf aG; intro ag fr sb fi
 clear hsl
 go_wp2_with fail
 refine NoPanic.normal ?_
 go_wp2_with fail
 refine (HTR _ _ sb).mono ?_
 rintro e w2 ⟨rfl, ⟨C9, -, hC9, sb9⟩, hf9⟩
 try rw [hC9] at sb9
 clear hC9
 replace fr := fr.trans (hf9.mono (Kcs_0 c s) (by decide)) ag
 replace hst := hst.fr hf9 (.inr (by decide))
 replace hfi := hfi.fr hf9 (.inr (by decide))
 replace fi := fi.fr hf9 (.inr (by decide))
 have sbx : SB w2 C1 c b 187 #[.pointer (some ⟨sg, 0, none⟩), .int .i64 rc, .bool ro, .int .i64 rv, .bool false, .int .i64 (tries + fi_.tries), .int .i64 sh, .int .i64 kind, .int .i64 key, .int .i64 most, .int .i64 0, .bool g0, .int .i64 g1, .bool g2, .int .i64 g3, .int .i64 g4, .int .u64 g5, .int .i64 g6, .bool g7, .int .i64 g8, .pointer (some ⟨bf, 0, none⟩), pc, pp] := by
  have := sb9
  unfold FsC FsS.try_ at this
  simpa [HOV.out] using this
 replace sb := sbx
 clear sb9 sbx hf9
 go_wp2_with fail
 obtain ⟨A, n, cap, hn, st, hrow⟩ := hst.ex
 clear hn hrow
 revert st; revert fi; revert hfi; revert hst; revert sb; revert fr; refine drw ?_; intro fr sb hst hfi fi st
 obtain ⟨q1, q2, q3, qi⟩ := such3 sb fi st
 refine wp_such3 sb fi st 19 [] [0, 1, 2, 3, 4, 5, 6, 7, 8, 9, 10, 11, 12, 13, 14, 15, 16, 17, 18] [19, 20, 21, 22] (by kernel_rfl) (by kernel_rfl) ?_
 refine wpPh_nil ?_; try simp only [ox]
 repeat (go_big_quiet_step (fail))
 refine wpQuiet_nil ?_
 refine wpTail_late _ _ _ (by kernel_rfl) ?_; try simp only [ox]
 clear qi q1 q2 q3
 go_wp2_with fail
 revert fr sb hst hfi fi st; refine pur (HFOR _) ?_; rintro e w3 rfl fr sb hst hfi fi st
 have z1 := And.intro sb (And.intro fi st)
 have hR := stR
 revert fr hst hfi fi st; refine sts sb [(11, .bool false), (12, .int .i64 p1), (13, .bool p2), (14, .int .i64 p3), (15, .int .i64 p4), (16, .int .u64 p5), (17, .int .i64 p6), (18, .bool p7), (19, .int .i64 p8)] (Kcs_0 c s) ag ?_; clear sb; rintro w4 e1 fr sb hst hfi fi st
 simp only [stx, sx] at e1 sb
 go_wp2_with fail
 refine NoPanic.normal ?_
 go_wp2_with fail
 clear z1 e1 hR
 revert fr hst hfi fi st sb; refine pur (HCLM _) ?_; rintro e w5 rfl fr hst hfi fi st sb
 go_wp2_with fail
 revert fr hst hfi fi st sb; refine pur (HLI _) ?_; rintro e w6 rfl fr hst hfi fi st sb
 go_wp2_with fail
 revert fr hst hfi fi st sb; refine drw ?_; intro fr hst hfi fi st sb
 obtain ⟨q1, q2, q3, qi⟩ := such3 sb fi st
 refine wp_such3 sb fi st 20 [] [0, 1, 2, 3, 4, 5, 6, 7, 8, 9, 10, 11, 12, 13, 14, 15, 16, 17, 18, 19] [20, 21, 22, 23, 24, 25, 26] (by kernel_rfl) (by kernel_rfl) ?_
 refine wpPh_nil ?_; try simp only [ox]
 repeat (go_big_quiet_step (fail))
 refine wpQuiet_nil ?_
 refine wpTail_late _ _ _ (by kernel_rfl) ?_; try simp only [ox]
 clear qi q1 q2 q3
 go_wp2_with fail
 revert ag fr hst hfi fi st sb; refine newb (store_Prepare sg key fi_.pos.curr C1 c _) ?_; rintro w7 bp C7 ag fr hpr hst hfi fi st sb
 have z2 := And.intro sb (And.intro fi st)
 revert fr hpr hst hfi fi st; refine st1 sb 10 (.int .i64 2) (Kcs_0 c s) ag ?_; clear sb; rintro w8 e1 fr sb hpr hst hfi fi st
 simp only [sx] at sb
 have z3 := And.intro sb (And.intro fi st)
 revert fr hpr hst hfi fi st; refine st1 sb 22 (.pointer (some ⟨bp, 0, none⟩)) (Kcs_0 c s) ag ?_; clear sb; rintro w9 e2 fr sb hpr hst hfi fi st
 simp only [sx] at sb
 go_wp2_with fail
 refine NoPanic.normal ?_
 go_wp2_with fail
 clear z2 e1 z3 e2
 go_ret
 exact ⟨by rw [HST.out]; rfl, ⟨_, ag, by rw [HST.out]; exact ⟨hst, ⟨_, _, _, sb, fun h => by simp at h, fun h => by simp at h, fun _ => ⟨bp, rfl, hpr⟩⟩⟩⟩, fr⟩
theorem fast_sought_no {w : World} {C : Nat → Nat} {c s sg b : Nat} {L : Ly} {me : Int} {t : StS} {f : FsS} (_ : L.Ok) (hcs : c ≠ s) (hst : StAt w C s sg L me t) (h : FsAt w C c sg b L f) (h0 : f.at_ = 0) (hok : f.Ok 400000) (hfo : f.find.Ok 100000) (hle : t.ret.length ≤ 99000) (ho : f.over f.find.tries = false) (hn0 : (planFor f.task f.find.pos t.spare).now = false) (hcl : (planFor f.task f.find.pos t.spare).claimed = false) (hlk : f.task.links = false) : Calls Tryz.prog 114 #[.pointer (some ⟨b, 0, none⟩)] w (OW C (Kcs c s) LFd (.bool (f.sought t).1) (fun w' C' => StAt w' C' s sg L me (f.sought t).2.1 ∧ FsAt w' C' c sg b L (f.sought t).2.2) w) := by
 obtain ⟨pf, pc, pp, sb, h1, h2, h3⟩ := h.ex
 obtain ⟨bf, rfl, hfi⟩ := h1 h0
 obtain ⟨hmay, htr, hmo⟩ := hok
 unfold FsC at sb
 obtain ⟨⟨rc, ro, rv⟩, failed, tries, ⟨sh, kind, key⟩, most, at_, ⟨g0, ⟨g1, g2, g3⟩, g4, g5, g6, g7, g8⟩, fi_, cl, prep⟩ := f
 simp only at sb h0 hfi hmay htr hmo hfo ho hn0 hcl hlk ⊢
 subst h0
 obtain ⟨pc1, hfc, -⟩ := hfi.ex
 obtain ⟨A1, n1, cap1, hn1, fi, hrow1⟩ := hfc.ex
 have hfo2 := hfo.unl
 have hft := hfo.tries
 have HSL := Lib.hid hrow1
 have HN1 := Lib.hid hn1
 have HFO := Lib.hid hfo2.1
 have hn1le : n1 ≤ 100000 := by omega
 have hK : ¬ K0 s c := fun e => hcs e
 have hp : fi_.pos.Ok := ⟨hfo.pw, hfo.cw⟩
 have HFOR := fun W => gen_For ⟨sh, kind, key⟩ fi_.pos t.spare hp hmay W
 have hold := fun (h : (planFor ⟨sh, kind, key⟩ fi_.pos t.spare).now = false) => planFor_old (t := ⟨sh, kind, key⟩) (spare := t.spare) hp h
 obtain ⟨P, hP⟩ : ∃ P, planFor ⟨sh, kind, key⟩ fi_.pos t.spare = P := ⟨_, rfl⟩
 simp only [hP] at HFOR hn0 hcl hold
 have HST : Hid (FsS.sought t (⟨⟨rc, ro, rv⟩, failed, tries, ⟨sh, kind, key⟩, most, 0, ⟨g0, ⟨g1, g2, g3⟩, g4, g5, g6, g7, g8⟩, fi_, cl, prep⟩ : FsS) = (false, t.retire fi_.unl, (⟨⟨rc, ro, rv⟩, false, tries + fi_.tries, ⟨sh, kind, key⟩, most, 3, P, fi_, cl, prep⟩ : FsS))) := Lib.hid (by unfold FsS.sought; simp only [hP]; rw [if_neg (by rw [ho]; decide)]; rw [if_neg (by rw [hn0]; decide), if_neg (by rw [hcl]; decide), if_neg (by rw [hlk]; decide)]; simp only [FsS.try_, ho])
 have hold2 := hold hn0
 have HCLM := fun W => plan_Claimed P hold2 W
 rw [hcl] at HCLM
 have HLI : ∀ W, Calls Tryz.prog 104 #[.agg #[.int .i64 sh, .int .i64 kind, .int .i64 key]] W fun e w' => e = .returned (.bool false) ∧ Below W.heap.size W w' := fun W => (task_Links ⟨sh, kind, key⟩ W).mono fun e w' h => ⟨h.1.trans (by rw [hlk]), h.2⟩
 clear hP hold
 obtain ⟨p0, ⟨p1, p2, p3⟩, p4, p5, p6, p7, p8⟩ := P
 simp only at hn0
 subst hn0
 simp only [PlS.val] at HFOR HCLM
 have HTR := fun W C' (k : FsC W C' c sg b (.pointer (some ⟨bf, 0, none⟩)) pc pp (⟨⟨rc, ro, rv⟩, failed, tries, ⟨sh, kind, key⟩, most, 0, ⟨g0, ⟨g1, g2, g3⟩, g4, g5, g6, g7, g8⟩, fi_, cl, prep⟩ : FsS)) => fast_try k fi_.tries (by omega) (by simp only; omega)
 rw [ho] at HTR
 have HOV : Hid (FsS.over (⟨⟨rc, ro, rv⟩, failed, tries, ⟨sh, kind, key⟩, most, 0, ⟨g0, ⟨g1, g2, g3⟩, g4, g5, g6, g7, g8⟩, fi_, cl, prep⟩ : FsS) fi_.tries = false) := Lib.hid ho
 clear ho hfo hfo2 hn1 hrow1 h h1 h2 h3 hfc hcl hlk
 go_enter Tryz.func114, Tryz.ntmps114
 have fr := Fr.refl C (Kcs c s) LFd w
 have ag := Agr.refl w.heap.size C
 go_wp2_with fail
 revert fi; revert hfi; revert hst; revert sb; revert fr; refine drw ?_; intro fr sb hst hfi fi
 obtain ⟨q1, q2, qi⟩ := such2 sb fi
 refine wp_such2 sb fi 11 [] [0, 1, 2, 3, 4, 5, 6, 7, 8, 9, 10] [11] (by kernel_rfl) (by kernel_rfl) ?_
 refine wpPh_nil ?_; try simp only [ox]
 repeat (go_big_quiet_step (fail))
 refine wpQuiet_nil ?_
 refine wpTail_late _ _ _ (by kernel_rfl) ?_; try simp only [ox]
 clear qi q1 q2
 go_wp2_with fail
 have hsl := (Sl.of_own HSL.out.own).step (Nat.le_refl _) (Below.refl w.heap.size w).drew
 refine (store_Retire hst fi_.unl A1 n1 cap1 _ hsl HN1.out (by omega) hn1le HFO.out).mono ?_; clear hst; rintro e w1 ⟨rfl, ⟨C1, aG, hst⟩, hf⟩
 replace hfi := hfi.mv hf aG (.inl hK)
 revert ag fr sb fi; refine mvm hf aG (Kcs_s c s) TSt_LFd ?_; clear hf aG; intro ag fr sb fi
 clear hsl
 go_wp2_with fail
 refine NoPanic.normal ?_
 go_wp2_with fail
 refine (HTR _ _ sb).mono ?_
 rintro e w2 ⟨rfl, ⟨C9, -, hC9, sb9⟩, hf9⟩
 try rw [hC9] at sb9
 clear hC9
 replace fr := fr.trans (hf9.mono (Kcs_0 c s) (by decide)) ag
 replace hst := hst.fr hf9 (.inr (by decide))
 replace hfi := hfi.fr hf9 (.inr (by decide))
 replace fi := fi.fr hf9 (.inr (by decide))
 have sbx : SB w2 C1 c b 187 #[.pointer (some ⟨sg, 0, none⟩), .int .i64 rc, .bool ro, .int .i64 rv, .bool false, .int .i64 (tries + fi_.tries), .int .i64 sh, .int .i64 kind, .int .i64 key, .int .i64 most, .int .i64 0, .bool g0, .int .i64 g1, .bool g2, .int .i64 g3, .int .i64 g4, .int .u64 g5, .int .i64 g6, .bool g7, .int .i64 g8, .pointer (some ⟨bf, 0, none⟩), pc, pp] := by
  have := sb9
  unfold FsC FsS.try_ at this
  simpa [HOV.out] using this
 replace sb := sbx
 clear sb9 sbx hf9
 go_wp2_with fail
 obtain ⟨A, n, cap, hn, st, hrow⟩ := hst.ex
 clear hn hrow
 revert st; revert fi; revert hfi; revert hst; revert sb; revert fr; refine drw ?_; intro fr sb hst hfi fi st
 obtain ⟨q1, q2, q3, qi⟩ := such3 sb fi st
 refine wp_such3 sb fi st 19 [] [0, 1, 2, 3, 4, 5, 6, 7, 8, 9, 10, 11, 12, 13, 14, 15, 16, 17, 18] [19, 20, 21, 22] (by kernel_rfl) (by kernel_rfl) ?_
 refine wpPh_nil ?_; try simp only [ox]
 repeat (go_big_quiet_step (fail))
 refine wpQuiet_nil ?_
 refine wpTail_late _ _ _ (by kernel_rfl) ?_; try simp only [ox]
 clear qi q1 q2 q3
 go_wp2_with fail
 revert fr sb hst hfi fi st; refine pur (HFOR _) ?_; rintro e w3 rfl fr sb hst hfi fi st
 have z1 := And.intro sb (And.intro fi st)
 have hR := stR
 revert fr hst hfi fi st; refine sts sb [(11, .bool false), (12, .int .i64 p1), (13, .bool p2), (14, .int .i64 p3), (15, .int .i64 p4), (16, .int .u64 p5), (17, .int .i64 p6), (18, .bool p7), (19, .int .i64 p8)] (Kcs_0 c s) ag ?_; clear sb; rintro w4 e1 fr sb hst hfi fi st
 simp only [stx, sx] at e1 sb
 go_wp2_with fail
 refine NoPanic.normal ?_
 go_wp2_with fail
 clear z1 e1 hR
 revert fr hst hfi fi st sb; refine pur (HCLM _) ?_; rintro e w5 rfl fr hst hfi fi st sb
 go_wp2_with fail
 revert fr hst hfi fi st sb; refine pur (HLI _) ?_; rintro e w6 rfl fr hst hfi fi st sb
 have z2 := And.intro sb (And.intro fi st)
 revert fr hst hfi fi st; refine st1 sb 10 (.int .i64 3) (Kcs_0 c s) ag ?_; clear sb; rintro w7 e1 fr sb hst hfi fi st
 simp only [sx] at sb
 go_wp2_with fail
 clear z2 e1
 go_ret
 exact ⟨by rw [HST.out]; rfl, ⟨_, ag, by rw [HST.out]; exact ⟨hst, ⟨_, _, _, sb, fun h => by simp at h, fun h => by simp at h, fun h => by simp at h⟩⟩⟩, fr⟩
end Go.Proofs.YtbcnnhlpilmmbaaGreat
