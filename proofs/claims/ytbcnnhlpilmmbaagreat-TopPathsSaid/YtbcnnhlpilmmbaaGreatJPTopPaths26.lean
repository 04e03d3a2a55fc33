/- Texts that are wanted for PTopPaths.
   Conditions: none. -/
import Derived.KernelRfl
import Derived.Deep.LoopGhost
import Derived.Deep.AppendLies
import Derived.Test.YtbcnnhlpilmmbaaGreatJPTopPaths21
import Derived.Test.YtbcnnhlpilmmbaaGreatJPTopPaths25
set_option maxRecDepth 100000
set_option maxHeartbeats 6400000
namespace Go.Proofs.YtbcnnhlpilmmbaaGreat
open Go Go.RowKit
theorem info_wp : (Tryz.prog.info? 80).map (fun i => (i.zero, i.size, i.bytes)) = some (some (.pointer none), 1, 8) := by kernel_rfl
def tasksOf (shape : Int) (l : List Opn) : List Tk3 := l.map fun o => ⟨shape, o.kind, o.key⟩
theorem tasksOf_cells (shape : Int) (l : List Opn) : (tasksOf shape l).flatMap Tk3.cells = l.flatMap (tkCells shape) := by
 unfold tasksOf
 induction l with
 | nil => rfl
 | cons o l ih => simp only [List.map_cons, List.flatMap_cons, ih]; rfl
def initW (shape : Int) (ops : List (List Opn)) (u : Nat) : WkS := ⟨⟨0, []⟩, tasksOf shape (ops.getD u []), 0, none⟩
def EgS.init (shape tries : Int) (ops : List (List Opn)) : EgS := ⟨shape, tries, fun _ => 0, HS.new, initW shape ops, 0⟩
abbrev preE (L : Ly) (hb : Nat) (wb sg : Nat → Nat) : EgL := ⟨⟨0, 0, L⟩, hb, wb, sg, 0⟩
structure NewI (w0 : World) (C0 : Nat → Nat) (shape tries th nd : Int) (ops : List (List Opn)) (cb lb hb eb : Nat) (k : Nat) (wr : World) : Prop where
 bel : Below w0.heap.size w0 wr
 ex : ∃ (C : Nat → Nat) (wb sg : Nat → Nat) (A : Option Addr) (cap : Nat), Agr w0.heap.size C0 C ∧ SB wr C 3 cb 65 #[.int .i64 shape, .int .i64 th, .int .i64 nd, .int .i64 tries] ∧ SB wr C 3 lb 31 #[.int .i64 th, .int .i64 nd] ∧
  SB wr C 3 eb 79 #[.int .i64 shape, .int .i64 th, .int .i64 nd, .int .i64 tries, .pointer none, .pointer (some ⟨hb, 0, none⟩), .slice A k cap, .int .i64 0] ∧ Row wr C 3 80 1 (.slice A k cap) k (wptrs (preE ⟨th, nd⟩ hb wb sg) k) ∧ HsAt wr w0.heap.size hb HS.new ∧ WksAt wr C (preE ⟨th, nd⟩ hb wb sg) (initW shape ops) (fun v => v < k)
 ge : w0.heap.size ≤ eb ∧ w0.heap.size ≤ cb ∧ w0.heap.size ≤ lb
structure ENewW (L : Ly) (C : Nat → Nat) (s0 : EgS) (w : World) (e : Ending) (w' : World) : Prop where
 ex : ∃ b E C', e = .returned (.tuple #[.pointer (some ⟨b, 0, none⟩), .int .i64 0]) ∧ E.M.L = L ∧ E.B = w.heap.size ∧ Agr w.heap.size C C' ∧ EgAt w' C' b E s0
 bel : Below w.heap.size w w'
theorem wptrs_snoc (L : Ly) (hb k bw sgk : Nat) (wb sg : Nat → Nat) : wptrs (preE L hb (fun v => if v = k then bw else wb v) (fun v => if v = k then sgk else sg v)) (k + 1) = wptrs (preE L hb wb sg) k ++ [.pointer (some ⟨bw, 0, none⟩)] := by
 unfold wptrs
 rw [List.range_succ, List.map_append]
 congr 1
 ·apply List.map_congr_left
  intro v hv
  have := List.mem_range.1 hv
  simp only [if_neg (show ¬ v = k by omega)]
 ·simp
theorem wks_snoc {w : World} {C : Nat → Nat} {L : Ly} {hb k bw sgk : Nat} {wb sg : Nat → Nat} {ws : Nat → WkS} (h : WksAt w C (preE L hb wb sg) ws (fun v => v < k)) (hk : WkAt w C (cM k) (cS k) (cK k) (cQ k) sgk bw L k (ws k)) : WksAt w C (preE L hb (fun v => if v = k then bw else wb v) (fun v => if v = k then sgk else sg v)) ws (fun v => v < k + 1) := by
 refine ⟨fun v hv hp => ?_⟩
 by_cases e : v = k
 ·subst e; simp only [WkU, if_true]; exact hk
 ·have := h.at_ v hv (by omega)
  simp only [WkU, if_neg e]; exact this
theorem ptr_one (b : Nat) : ∀ u ∈ [Value.pointer (some ⟨b, 0, none⟩)], u.oneCell' = true := by intro u hu; simp at hu; subst hu; rfl
theorem engine_New (shape tries : Int) (L : Ly) (hc : CfgOk shape tries L) (A : Option Addr) (n cap B : Nat) (ops : List (List Opn)) (w : World) (hs : OpsAt w B A n ops) (hB : B ≤ w.heap.size) (h40 : ∀ l ∈ ops, l.length ≤ 40) (hn : (n : Int) ≤ L.th) (hmay : ∀ l ∈ ops, l.all (may shape) = true) (C : Nat → Nat) (hC0 : ∀ g, g < w.heap.size → C g = 0) : Calls Tryz.prog 24 #[.agg #[.int .i64 shape, .int .i64 L.th, .int .i64 L.nd, .int .i64 tries], .slice A n cap] w (ENewW L C (.init shape tries ops) w) := by
 have HWR := fun W => config_wrong shape tries L hc W
 have HLG := fun W (h : OpsAt W B A n ops) (hB' : B ≤ W.heap.size) => config_long shape tries L hc.lay A n cap B ops W h hB' h40 hn
 have hL := hc.lay
 have HMN := fun C' W => mem_New L hL C' W
 obtain ⟨th, nd⟩ := L
 simp only at HWR HLG hn ⊢
 simp only [Ly.val] at HMN
 have hth := hL.th
 simp only at hth
 obtain ⟨i0, hi, hz0, hz1, hz2⟩ := info_parts info_wp
 obtain ⟨C1, hC1⟩ : ∃ C1, C1 = paint C w.heap.size 3 := ⟨_, rfl⟩
 have hnew : ∀ g, w.heap.size ≤ g → C1 g = 3 := fun g hg => by rw [hC1]; exact paint_new C 3 hg
 have ag1 : Agr w.heap.size C C1 := by rw [hC1]; exact Agr.paint _ _ _
 have sb : SB (w.alloc (.cells #[.int .i64 shape, .int .i64 th, .int .i64 nd, .int .i64 tries] 65)) C1 3 w.heap.size 65 #[.int .i64 shape, .int .i64 th, .int .i64 nd, .int .i64 tries] := SB.new w C1 (hnew _ (Nat.le_refl _)) _ _ rfl
 have fr0 : Below w.heap.size w (w.alloc (.cells #[.int .i64 shape, .int .i64 th, .int .i64 nd, .int .i64 tries] 65)) := (Below.refl _ _).alloc (Nat.le_refl _) _
 have HW0 := Lib.hid hs
 clear hC1 hc hs
 go_enter Tryz.func24, Tryz.ntmps24
 have fr := Fr.refl C1 (fun _ => False) [] (w.alloc (.cells #[.int .i64 shape, .int .i64 th, .int .i64 nd, .int .i64 tries] 65))
 have ag := Agr.refl (w.alloc (.cells #[.int .i64 shape, .int .i64 th, .int .i64 nd, .int .i64 tries] 65)).heap.size C1
 go_wp2_with fail
 refine (HWR _).mono ?_; rintro e w1 ⟨rfl, hb1⟩
 skip
 revert sb; revert fr; refine mvb hb1 ?_; intro fr sb
 go_wp2_with fail
 have hbl := fr0.trans ((fr.below (fun _ _ h => h) (Nat.le_refl _)).mono (by simp))
 refine (HLG _ (HW0.out.below (hbl.mono hB)) (Nat.le_trans hB hbl.size)).mono ?_; rintro e w2 ⟨rfl, hb2⟩
 skip
 revert fr sb; refine mvb hb2 ?_; intro fr sb
 go_wp2_with fail
 clear hbl
 have z1 := sb
 revert fr sb; refine bx1 31 #[.int .i64 th, .int .i64 nd] ?_; rintro w3 elb llb fr lb sb
 go_wp2_with fail
 try simp only [elb]
 clear elb z1
 revert fr lb sb; refine drw ?_; intro fr lb sb
 obtain ⟨q1, q2, qi⟩ := such2 sb lb
 refine wp_such2 sb lb 3 [([0], 1)] [2] [3, 4] (by kernel_rfl) (by kernel_rfl) ?_
 refine wpPh_cons ?_; simp only [ox]; repeat (go_big_quiet_step (fail))
 refine pho rfl (fun K' hK' => ?_); go_simp
 ((with_reducible refine (hist_new _).mono ?_); rintro e w4 ⟨rfl, hh, hb4⟩)
 have szH := fr.size
 revert fr lb sb; refine mvb hb4 ?_; intro fr lb sb
 refine hK' _ _ (mks2 sb lb) ?_; clear hK' K'
 refine wpPh_nil ?_; try simp only [ox]
 repeat (go_big_quiet_step (fail))
 refine wpQuiet_nil ?_
 refine wpTail_late _ _ _ (by kernel_rfl) ?_; try simp only [ox]
 clear qi q1 q2
 have hbA := fr0.trans ((fr.below (fun _ _ h => h) (Nat.le_refl _)).mono (by simp))
 have szA := hbA.size
 have cfgb : SB w4 C1 3 w.heap.size 65 #[.int .i64 shape, .int .i64 th, .int .i64 nd, .int .i64 tries] := sb
 have eb := SB.new w4 C1 (hnew w4.heap.size szA) 79 #[.int .i64 shape, .int .i64 th, .int .i64 nd, .int .i64 tries, .pointer none, .pointer (some ⟨w3.heap.size, 0, none⟩), .slice none 0 0, .int .i64 0] rfl
 have hl2 : w.heap.size ≤ w2.heap.size := Nat.le_trans (Nat.le_trans (by simp) hb1.size) hb2.size
 have lyb : SB w4 C1 3 w2.heap.size 31 #[.int .i64 th, .int .i64 nd] := SB.mk lb.blk (hnew _ hl2)
 have hh0 : HsAt w4 w.heap.size w3.heap.size HS.new := ⟨hh.mono (Nat.le_trans fr0.size szH)⟩
 have hal : Below w4.heap.size w4 (w4.alloc (.cells #[.int .i64 shape, .int .i64 th, .int .i64 nd, .int .i64 tries, .pointer none, .pointer (some ⟨w3.heap.size, 0, none⟩), .slice none 0 0, .int .i64 0] 79)) := (Below.refl _ _).alloc (Nat.le_refl _) _
 replace cfgb := cfgb.step hal
 replace lyb := lyb.step hal
 replace hh0 := hh0.step hal
 replace hbA := hbA.trans (hal.mono szA)
 have hcc := cfgb.blk.cells
 have hcl := lyb.blk.cells
 clear hal fr hh hb1 hb2 hb4 szH lb sb
 go_wp2_with fail
 refine NoPanic.normal ?_
 go_wp2_with fail
 clear hcc hcl
 generalize (w4.alloc (.cells #[.int .i64 shape, .int .i64 th, .int .i64 nd, .int .i64 tries, .pointer none, .pointer (some ⟨w3.heap.size, 0, none⟩), .slice none 0 0, .int .i64 0] 79)) = w5 at *
 have hge : w.heap.size ≤ w4.heap.size ∧ w.heap.size ≤ w.heap.size ∧ w.heap.size ≤ w2.heap.size := ⟨szA, Nat.le_refl _, hl2⟩
 obtain ⟨hb, hhb⟩ : ∃ hb, w3.heap.size = hb := ⟨_, rfl⟩
 simp only [hhb] at eb hh0
 obtain ⟨ebk, hebk⟩ : ∃ ebk, w4.heap.size = ebk := ⟨_, rfl⟩
 simp only [hebk] at eb hge ⊢
 obtain ⟨lbk, hlbk⟩ : ∃ lbk, w2.heap.size = lbk := ⟨_, rfl⟩
 simp only [hlbk] at lyb hge ⊢
 obtain ⟨cbk, hcbk⟩ : ∃ cbk, cbk = w.heap.size := ⟨_, rfl⟩
 have hge2 : w.heap.size ≤ ebk ∧ w.heap.size ≤ cbk ∧ w.heap.size ≤ lbk := by rw [hcbk]; exact hge
 have hcf2 : SB w5 C1 3 cbk 65 #[.int .i64 shape, .int .i64 th, .int .i64 nd, .int .i64 tries] := by rw [hcbk]; exact cfgb
 have HCB := Lib.hid hcbk
 have hI0 : NewI w C shape tries th nd ops cbk lbk hb ebk 0 w5 := ⟨hbA, ⟨C1, fun _ => 0, fun _ => 0, none, 0, ag1, hcf2, lyb, eb, Row.nil_ _ _ _ _ _, hh0, ⟨fun v _ hp => absurd hp (by omega)⟩⟩, hge2⟩
 rw [← hcbk]
 clear hhb hebk hlbk cfgb hcf2 lyb eb hh0 hbA hge hl2 szA ag1 ag hcbk
 go_loopw [34] (fun i wr => ∃ k : Nat, (k : Int) ≤ th ∧ i = .int .i64 k ∧ NewI w C shape tries th nd ops cbk lbk hb ebk k wr) (fun i _ => th.toNat - (intOf i).toNat)
 case atStart => exact ⟨0, by omega, rfl, hI0⟩
 case round =>
  clear hI0
  obtain ⟨k, hk, rfl, hI⟩ := hrel
  obtain ⟨hbel, ⟨C2, wb, sg, A2, cap2, ag2, cfgb, lyb, sb, hrow, hh, hws⟩, hge3⟩ := hI
  have hk9 : k ≤ 1000 := by omega
  by_cases hlt : (k : Int) < th
  ·have dk : decide ((k : Int) < th) = true := decide_eq_true hlt
   have HNW := fun C' W A3 n3 c3 (h : Sr W C' (cK k) 85 3 A3 n3 ((initW shape ops k).tasks.flatMap Tk3.cells)) (h1 : (initW shape ops k).tasks.length = n3) (h2 : n3 ≤ 1000) => engine_newWorker ⟨th, nd⟩ (k : Int) (by omega) C' (cM k) (cS k) (cK k) (cQ k) A3 n3 c3 (initW shape ops k).tasks W h h1 h2
   simp only [Ly.val] at HNW
   have hcc := cfgb.blk.cells
   have hcl := lyb.blk.cells
   have hce := sb.blk.cells
   have hlc := cfgb.lt
   have hll := lyb.lt
   by_cases hkn : k < n
   ·have dkn : decide ((k : Int) < (n : Int)) = true := decide_eq_true (by omega)
    obtain ⟨l, hl⟩ : ∃ l, ops[k]? = some l := ⟨_, List.getElem?_eq_getElem (by rw [HW0.out.len]; exact hkn)⟩
    have hsw := HW0.out.below (hbel.mono hB)
    obtain ⟨A', n', c', f0, hsl, rfl⟩ := hsw.at_ hl
    have hidx := hsw.idx (cap := cap) hkn
    have hoplt := hsw.lt hkn
    have hlm := List.mem_of_getElem? hl
    have hl40 := h40 l hlm
    have HOF : ∀ W, Sl W B 2 A' l.length (l.flatMap Opn.cells) → B ≤ W.heap.size → Calls Tryz.prog 46 #[.int .i64 shape, .slice A' l.length c'] W fun e w' => (∃ v, e = .returned (.tuple #[v, .int .i64 0]) ∧ w'.ownsRow W.heap.size 85 3 v l.length (l.flatMap (tkCells shape))) ∧ Below W.heap.size W w' :=
     fun W h1 h2 => (task_Of shape A' l.length c' B l W h1 h2 rfl (by omega)).mono fun e w' h => ⟨by have := h.1; rw [if_pos (hmay l hlm)] at this; exact this, h.2⟩
    have hBw : B ≤ wr.heap.size := Nat.le_trans hB hbel.size
    have hBd : B ≤ wr.drew.heap.size := hBw
    have q0 := Later.cell (B := wr.heap.size) (w := wr) (show wr.cell? ⟨cbk, 0, none⟩ = some (.int .i64 shape) from cfgb.blk.cell 0) hlc
    have q1 := Later.cell (B := wr.heap.size) (w := wr) f0 (Nat.lt_of_lt_of_le hoplt hBw)
    have htk : (initW shape ops k).tasks = tasksOf shape l := by unfold initW; simp only [List.getD_eq_getElem?_getD, hl, Option.getD_some]
    go_wp2_with fail
    refine wp_region_ph (fun w' => ∃ q : Later wr.heap.size wr, w' = q.val) 11 [([0, 1, 2, 3, 4, 5], 6)] [7, 8, 9, 10] [11] (by kernel_rfl) (by kernel_rfl) (Later.mk_ (Below.refl _ _).drew) ?_
    refine wpPh_cons ?_
    simp only [opsAt, List.map_cons, List.map_nil, List.getD_cons_zero, List.getD_cons_succ]
    repeat (go_big_quiet_step (fail))
    refine wpQuiet_nil ?_
    refine wpPh_op rfl (fun K' hK' => ?_)
    go_simp
    ((with_reducible refine (HOF _ (hsl.below (Below.refl _ _).drew) hBd).mono ?_); rintro e w2 ⟨⟨v, rfl, hown⟩, hb2⟩)
    refine hK' _ _ (Later.mk_ ((Below.refl _ _).drew.trans hb2)) ?_
    clear hK' K'
    refine wpPh_nil ?_
    try simp only [opsAt, List.map_cons, List.map_nil, List.getD_cons_zero, List.getD_cons_succ]
    repeat (go_big_quiet_step (fail))
    refine wpQuiet_nil ?_
    refine wpTail_late _ _ _ (by kernel_rfl) ?_
    try simp only [opsAt, List.map_cons, List.map_nil, List.getD_cons_zero, List.getD_cons_succ]
    have hb3 : Below wr.heap.size wr w2 := (Below.refl _ _).drew.trans hb2
    have hsz2 := hb3.size
    obtain ⟨C3, hC3⟩ : ∃ C3, C3 = paint C2 wr.heap.size (cK k) := ⟨_, rfl⟩
    have agp : Agr wr.heap.size C2 C3 := by rw [hC3]; exact Agr.paint _ _ _
    have hcol : ∀ g, v.ownBlock = some g → C3 g = cK k := fun g hg => by rw [hC3]; exact paint_new _ _ (own_at hown g hg).1
    have hrw : Row w2 C3 (cK k) 85 3 v l.length (l.flatMap (tkCells shape)) := ⟨own_mono hown (Nat.zero_le _), hcol⟩
    obtain ⟨A3, c3, rfl, -, -, -⟩ := hrw.form
    have hsr := Sr.of_row hrw
    rw [← tasksOf_cells, ← htk] at hsr
    have hln3 : (initW shape ops k).tasks.length = l.length := by rw [htk]; simp [tasksOf]
    replace HNW := fun C' W h => HNW C' W A3 l.length c3 h hln3 (by omega)
    replace cfgb := (cfgb.agr agp).step hb3
    replace lyb := (lyb.agr agp).step hb3
    replace sb := (sb.agr agp).step hb3
    replace hrow := (hrow.agr agp).step hb3
    replace hh := hh.step hb3
    replace hws := (hws.agr agp).step hb3
    have hbel2 := hbel.trans (hb3.mono hbel.size)
    clear hb2 hb3 hown hcol hrw hC3 q0 q1 HOF hcc hcl hce f0 hsl hidx hsw hln3 htk hlc hll hoplt
    go_wp2_with fail
    refine NoPanic.normal ?_
    have hbw : Below w.heap.size w w2 := hbel2
    replace hh := HsC.mk_ C3 hh
    have fr := Fr.refl C3 (K0 3) [some 79, some 80] w2
    have ag := Agr.refl w2.heap.size C3
    go_wp2_with fail
    revert lyb; revert hsr; revert cfgb; revert hws; revert hh; revert hrow; revert sb; revert fr; refine drw ?_; intro fr sb hrow hh hws cfgb hsr lyb
    obtain ⟨q1, q2, qi⟩ := such2 sb lyb
    refine wp_such2 sb lyb 10 [] [0, 1, 2, 3, 4, 5, 6, 7] [8, 9, 10, 11, 12, 13] (by kernel_rfl) (by kernel_rfl) ?_
    refine wpPh_nil ?_; try simp only [ox]
    repeat (go_big_quiet_step (fail))
    refine wpQuiet_nil ?_
    refine wpTail_early rfl (fun K' hK' => ?_); go_simp
    ((with_reducible refine (HNW _ _ hsr).mono ?_); rintro e w1 ⟨⟨bwk, sgk, C1, rfl, aG, hwk⟩, hb1⟩)
    revert ag fr sb hrow hh hws cfgb hsr lyb; refine mvm (Fr.of_below hb1 C3 (fun _ => False) []) aG (fun _ h => h.elim) (by decide) ?_; clear aG hb1; intro ag fr sb hrow hh hws cfgb hsr lyb
    refine hK' _ _ (mks2 sb lyb) ?_; clear hK' K'
    refine wpTail_early rfl (fun K' hK' => ?_); go_simp
    revert hwk sb hrow hh hws cfgb hsr lyb; revert fr; refine bx1 80 #[.pointer (some ⟨bwk, 0, none⟩)] ?_; rintro w2 e1 lns fr ns hwk sb hrow hh hws cfgb hsr lyb; rw [e1]
    refine hK' _ _ (mks2 sb lyb) ?_; clear hK' K' e1
    refine wpTail_late _ _ _ (by kernel_rfl) ?_; try simp only [ox]
    clear qi q1 q2
    go_wp2_with (at_builtin; refine wpList_append_lies _ rfl _ _ _ rfl 0 80 i0 _ 1 8 Tryz.underlying77 hi hz0 hz1 hz2 rfl (by omega) (.slice A2 k cap2) k (wptrs (preE ⟨th, nd⟩ hb wb sg) k) rfl hrow.own ⟨w1.heap.size, 0, none⟩ 1 1 [.pointer (some ⟨bwk, 0, none⟩)] rfl rfl (World.news_of_block ns.blk) (ptr_one bwk) (by omega) (by unfold maxLen; omega) (by omega) (Nat.zero_le _) (w2.heap.size) rfl ?_; intro g9 cap9 wA hownA hgrowA hatA hltA; have hfA : Fr C1 (K0 3) [some 80] w2 wA := (Fr.refl C1 (K0 3) [some 80] w2).app hrow hgrowA (K0_own 3) (by decide); have sA := sb.fr hfA (.inr (by decide)))
    have hrA := hrow.app hownA (hatA.elim (fun e => .inl e.symm) (fun e => .inr (by rw [e]; rfl)))
    obtain ⟨CA, hCA⟩ : ∃ C', C' = paint C1 w2.heap.size 3 := ⟨_, rfl⟩
    rw [← hCA] at hrA
    have aG : Agr w2.heap.size C1 CA := by rw [hCA]; exact Agr.paint _ _ _
    clear hrow ns sA hCA; revert lyb; revert hwk; revert hsr; revert cfgb; revert hws; revert hh; revert sb; revert fr; revert ag; refine mvm hfA aG (fun _ h => h) (by decide) ?_; intro ag fr sb hh hws cfgb hsr hwk lyb
    have hrow := hrA
    clear hrA aG hfA hgrowA hatA hownA
    have ownne := own_ne hrow.own sb.blk (by decide)
    revert fr hh hws cfgb hsr hwk lyb hrow; refine st1 sb 6 (.slice (some ⟨g9, 0, none⟩) (k + 1) cap9) (fun _ h => h) ag ?_; clear sb; rintro w3 e1 fr sb hh hws cfgb hsr hwk lyb hrow
    simp only [sx] at sb
    rw [e1]
    clear e1
    clear ownne
    refine NoPanic.normal ?_
    go_wp2_with fail
    refine ⟨?_, ?measure⟩
    (repeat apply Exists.intro)
    refine ⟨?rel, rfl⟩
    case rel =>
     refine ⟨k + 1, by omega, by go_num, ⟨hbw.trans (fr.below (fun g hg => ?_) hbw.size), ⟨CA, _, _, _, _, (ag2.trans agp hbel.size).trans ag hbw.size, cfgb, lyb, sb, ?_, hh, wks_snoc hws hwk⟩, hge3⟩⟩
     ·rw [agp g (Nat.lt_of_lt_of_le hg hbel.size), ag2 g hg, hC0 g hg]; unfold K0; omega
     ·rw [wptrs_snoc]; exact hrow
    case measure => simp [intOf] <;> omega
   ·have dkn : decide ((k : Int) < (n : Int)) = false := decide_eq_false (by omega)
    have htk : (initW shape ops k).tasks = [] := by
     unfold initW
     simp only [List.getD_eq_getElem?_getD, List.getElem?_eq_none (show ops.length ≤ k by rw [HW0.out.len]; omega), Option.getD_none]
     rfl
    have hsr : Sr wr C2 (cK k) 85 3 none 0 ((initW shape ops k).tasks.flatMap Tk3.cells) := by rw [htk]; exact Sr.nil_ _ _ _ _ _ _
    have hln3 : (initW shape ops k).tasks.length = 0 := by rw [htk]; rfl
    replace HNW := fun C' W h => HNW C' W none 0 0 h hln3 (by omega)
    have agp : Agr wr.heap.size C2 C2 := Agr.refl _ _
    have hbel2 := hbel
    clear hcc hcl hce hlc hll hln3 htk
    have hbw : Below w.heap.size w wr := hbel2
    replace hh := HsC.mk_ C2 hh
    have fr := Fr.refl C2 (K0 3) [some 79, some 80] wr
    have ag := Agr.refl wr.heap.size C2
    go_wp2_with fail
    revert lyb; revert hsr; revert cfgb; revert hws; revert hh; revert hrow; revert sb; revert fr; refine drw ?_; intro fr sb hrow hh hws cfgb hsr lyb
    obtain ⟨q1, q2, qi⟩ := such2 sb lyb
    refine wp_such2 sb lyb 10 [] [0, 1, 2, 3, 4, 5, 6, 7] [8, 9, 10, 11, 12, 13] (by kernel_rfl) (by kernel_rfl) ?_
    refine wpPh_nil ?_; try simp only [ox]
    repeat (go_big_quiet_step (fail))
    refine wpQuiet_nil ?_
    refine wpTail_early rfl (fun K' hK' => ?_); go_simp
    ((with_reducible refine (HNW _ _ hsr).mono ?_); rintro e w1 ⟨⟨bwk, sgk, C1, rfl, aG, hwk⟩, hb1⟩)
    revert ag fr sb hrow hh hws cfgb hsr lyb; refine mvm (Fr.of_below hb1 C2 (fun _ => False) []) aG (fun _ h => h.elim) (by decide) ?_; clear aG hb1; intro ag fr sb hrow hh hws cfgb hsr lyb
    refine hK' _ _ (mks2 sb lyb) ?_; clear hK' K'
    refine wpTail_early rfl (fun K' hK' => ?_); go_simp
    revert hwk sb hrow hh hws cfgb hsr lyb; revert fr; refine bx1 80 #[.pointer (some ⟨bwk, 0, none⟩)] ?_; rintro w2 e1 lns fr ns hwk sb hrow hh hws cfgb hsr lyb; rw [e1]
    refine hK' _ _ (mks2 sb lyb) ?_; clear hK' K' e1
    refine wpTail_late _ _ _ (by kernel_rfl) ?_; try simp only [ox]
    clear qi q1 q2
    go_wp2_with (at_builtin; refine wpList_append_lies _ rfl _ _ _ rfl 0 80 i0 _ 1 8 Tryz.underlying77 hi hz0 hz1 hz2 rfl (by omega) (.slice A2 k cap2) k (wptrs (preE ⟨th, nd⟩ hb wb sg) k) rfl hrow.own ⟨w1.heap.size, 0, none⟩ 1 1 [.pointer (some ⟨bwk, 0, none⟩)] rfl rfl (World.news_of_block ns.blk) (ptr_one bwk) (by omega) (by unfold maxLen; omega) (by omega) (Nat.zero_le _) (w2.heap.size) rfl ?_; intro g9 cap9 wA hownA hgrowA hatA hltA; have hfA : Fr C1 (K0 3) [some 80] w2 wA := (Fr.refl C1 (K0 3) [some 80] w2).app hrow hgrowA (K0_own 3) (by decide); have sA := sb.fr hfA (.inr (by decide)))
    have hrA := hrow.app hownA (hatA.elim (fun e => .inl e.symm) (fun e => .inr (by rw [e]; rfl)))
    obtain ⟨CA, hCA⟩ : ∃ C', C' = paint C1 w2.heap.size 3 := ⟨_, rfl⟩
    rw [← hCA] at hrA
    have aG : Agr w2.heap.size C1 CA := by rw [hCA]; exact Agr.paint _ _ _
    clear hrow ns sA hCA; revert lyb; revert hwk; revert hsr; revert cfgb; revert hws; revert hh; revert sb; revert fr; revert ag; refine mvm hfA aG (fun _ h => h) (by decide) ?_; intro ag fr sb hh hws cfgb hsr hwk lyb
    have hrow := hrA
    clear hrA aG hfA hgrowA hatA hownA
    have ownne := own_ne hrow.own sb.blk (by decide)
    revert fr hh hws cfgb hsr hwk lyb hrow; refine st1 sb 6 (.slice (some ⟨g9, 0, none⟩) (k + 1) cap9) (fun _ h => h) ag ?_; clear sb; rintro w3 e1 fr sb hh hws cfgb hsr hwk lyb hrow
    simp only [sx] at sb
    rw [e1]
    clear e1
    clear ownne
    refine NoPanic.normal ?_
    go_wp2_with fail
    refine ⟨?_, ?measure⟩
    (repeat apply Exists.intro)
    refine ⟨?rel, rfl⟩
    case rel =>
     refine ⟨k + 1, by omega, by go_num, ⟨hbw.trans (fr.below (fun g hg => ?_) hbw.size), ⟨CA, _, _, _, _, (ag2.trans agp hbel.size).trans ag hbw.size, cfgb, lyb, sb, ?_, hh, wks_snoc hws hwk⟩, hge3⟩⟩
     ·rw [agp g (Nat.lt_of_lt_of_le hg hbel.size), ag2 g hg, hC0 g hg]; unfold K0; omega
     ·rw [wptrs_snoc]; exact hrow
    case measure => simp [intOf] <;> omega
  ·have dk : decide ((k : Int) < th) = false := decide_eq_false hlt
   have hkt : (⟨th, nd⟩ : Ly).th.toNat = k := by simp only; omega
   have hcl := lyb.blk.cells
   go_wp2_with fail
   refine (HMN C2 _).mono ?_
   rintro e w6 ⟨⟨M, rfl, hML, hmem⟩, hb6⟩
   have agq : Agr wr.heap.size C2 (paint C2 wr.heap.size 1) := Agr.paint _ _ _
   replace sb := (sb.agr agq).step hb6
   replace hrow := (hrow.agr agq).step hb6
   replace hh := hh.step hb6
   replace hws := (hws.agr agq).step hb6
   have hbw := hbel.trans (hb6.mono hbel.size)
   obtain ⟨C7, hC7⟩ : ∃ C7, C7 = paint C2 wr.heap.size 1 := ⟨_, rfl⟩
   rw [← hC7] at sb hrow hws hmem agq
   have agt := ag2.trans agq hbel.size
   have hf' := sb.fr1 4 (.pointer (some ⟨M.b, 0, none⟩))
   have sb2 := sb.set_ 4 (.pointer (some ⟨M.b, 0, none⟩))
   have hce := sb.blk.cells
   have hfe := sb.blk.frees
   clear hcl
   go_wp2_with fail
   go_ret2
   refine ⟨⟨ebk, ⟨M, hb, wb, sg, w.heap.size⟩, C7, rfl, hML, rfl, agt, ⟨⟨A2, cap2, ?_, ?_⟩, hmem.fr hf' (.inr ⟨by decide, by decide⟩), hh.fr hf' (.inr (by decide)), ⟨fun v hv _ => ?_⟩⟩⟩, hbw.trans (hf'.below (fun g hg => ?_) hbw.size)⟩
   ·simp only [EgL.n, hML, hkt]; exact sb2
   ·simp only [EgL.n, hML, hkt]; exact Sr.of_row (hrow.fr hf' (.inr (by decide)))
   ·have h1 := (hws.fr hf' (.inr (by decide))).at_ v (by simp only [EgL.n, hML] at hv; exact hv) (by simp only [EgL.n, hML, hkt] at hv; exact hv)
    simp only [WkU] at h1 ⊢
    rw [hML]
    exact h1
   ·rw [agt g hg, hC0 g hg]; unfold K0; omega
def wsum : Nat → (Nat → Nat) → Nat
 | 0, _ => 0
 | n + 1, f => wsum n f + f n
theorem wsum_same {f g : Nat → Nat} : ∀ n, (∀ v, v < n → f v = g v) → wsum n f = wsum n g
 | 0, _ => rfl
 | n + 1, h => by simp only [wsum, wsum_same n (fun v hv => h v (by omega)), h n (by omega)]
theorem wsum_upd {f g : Nat → Nat} {u : Nat} : ∀ n, u < n → (∀ v, v ≠ u → f v = g v) → wsum n f + g u = wsum n g + f u
 | 0, h, _ => by omega
 | n + 1, h, hs => by
  by_cases e : u = n
  ·subst e
   have := wsum_same (f := f) (g := g) u (fun v hv => hs v (by omega))
   simp only [wsum]; omega
  ·have h1 := wsum_upd n (by omega) hs
   have h2 := hs n (fun e2 => e e2.symm)
   simp only [wsum]; omega
theorem wsum_le {f : Nat → Nat} {B : Nat} : ∀ n, (∀ v, v < n → f v ≤ B) → wsum n f ≤ n * B
 | 0, _ => by simp [wsum]
 | n + 1, h => by
  have h1 := wsum_le n (fun v hv => h v (by omega))
  have h2 := h n (by omega)
  have h3 : (n + 1) * B = n * B + B := by rw [Nat.add_mul, Nat.one_mul]
  simp only [wsum]; omega
def WkS.evs (x : WkS) : Nat := 2 * x.ended + (if x.now.isSome then 1 else 0)
structure WOk (M : ML) (m : Mm) (u : Int) (N : Int) (x : WkS) : Prop where
 st : StOk M.L x.st N
 may : ∀ t ∈ x.tasks, t.may = true
 few : x.tasks.length ≤ 40
 le : x.ended ≤ x.tasks.length
 idle : x.now = none → Idle M m u
 now : ∀ d, x.now = some d → DoOk M.L u x.st d N ∧ Own M u m d ∧ x.tasks[x.ended]? = some d.task
structure EgOk (M : ML) (e : EgS) : Prop where
 lay : M.L.Ok
 mem : MOk M e.m
 tries : 0 ≤ e.tries ∧ e.tries ≤ 50
 ws : ∀ u, u < M.L.th.toNat → WOk M e.m u e.steps (e.ws u)
 steps : e.steps ≤ 60000
 evs : e.hist.evs.length ≤ wsum M.L.th.toNat (fun u => (e.ws u).evs)
 hnow : ∀ u, u < M.L.th.toNat → (0 < e.hist.now u ↔ (e.ws u).now ≠ none)
theorem WOk.evs_le {M : ML} {m : Mm} {u N : Int} {x : WkS} (h : WOk M m u N x) : x.evs ≤ 80 := by
 have h1 := h.few
 have h2 := h.le
 unfold WkS.evs
 cases hn : x.now with
 | none => simp only [Option.isSome_none]; simp; omega
 | some d =>
  have := (List.getElem?_eq_some_iff.1 (h.now d hn).2.2).1
  simp; omega
theorem EgOk.len {M : ML} {e : EgS} (h : EgOk M e) : e.hist.evs.length ≤ 640 := by
 have h1 := wsum_le M.L.th.toNat (fun v hv => (h.ws v hv).evs_le)
 have h2 := h.lay.th
 have h3 := h.evs
 have h4 : M.L.th.toNat * 80 ≤ 8 * 80 := Nat.mul_le_mul_right _ (by omega)
 omega
theorem HpOk.mono {L : Ly} {me : Int} {t : StS} {h : HpS} {N N' : Int} (hh : HpOk L me t h N) (hN : N ≤ N') : HpOk L me t h N' :=
 ⟨hh.u, by have := hh.rounds; omega, hh.found, hh.at_, hh.may, hh.pend, hh.st1, hh.exec, fun e => (hh.ens e).mono hN, fun e => ⟨⟨(hh.find e).1.1.mono hN, (hh.find e).1.2⟩, by have := (hh.find e).2; omega⟩, hh.plan, hh.now, hh.cl, hh.prep⟩
theorem FsOk.mono {L : Ly} {me : Int} {t : StS} {f : FsS} {N N' : Int} (h : FsOk L me t f N) (hN : N ≤ N') : FsOk L me t f N' :=
 ⟨h.may, h.most, h.at_, by have := h.tries; omega, fun e => ⟨by have := (h.sum e).1; omega, (h.sum e).2.1, by have := (h.sum e).2.2; omega⟩, fun e => ⟨(h.find e).1.mono hN, (h.find e).2⟩, h.plan, h.cl, h.prep, h.code⟩
theorem DoOk.mono {L : Ly} {me : Int} {t : StS} {d : DoS} {N N' : Int} (h : DoOk L me t d N) (hN : N ≤ N') : DoOk L me t d N' :=
 ⟨h.may, h.lim, h.at_, h.head, fun e => (h.help e).mono hN, fun e => (h.ens e).mono hN, fun e => (h.fast e).mono hN, h.ann, fun e => ⟨⟨(h.find e).1.1.mono hN, (h.find e).1.2⟩, by have := (h.find e).2; omega⟩, h.drop, fun e => (h.sweep e).mono hN⟩
theorem WOk.rel {M : ML} {m m' : Mm} {u v N N' : Int} {x : WkS} (h : WOk M m v N x) (hr : Rel M u m m') (hm : MOk M m) (hv : 0 ≤ v ∧ v < M.L.th) (hne : v ≠ u) (hN : N ≤ N') : WOk M m' v N' x := by
 refine ⟨h.st.mono hN, h.may, h.few, h.le, fun e => ?_, fun d hd => ?_⟩
 ·have hi := h.idle e
  rcases hr.desc v hv.1 hv.2 with e2 | e2 | e2
  ·unfold Idle stt at hi ⊢; rw [e2]; exact hi
  ·have := dpath_from e2
   unfold Idle stt at hi
   omega
  ·exact absurd e2.1 hne
 ·obtain ⟨h1, h2, h3⟩ := h.now d hd
  exact ⟨h1.mono hN, h2.rel hr hv hne hm, h3⟩
theorem do_new_ok {M : ML} {me : Int} {m : Mm} {t : StS} {k : Tk3} {lim N : Int} (hL : M.L.Ok) (hk : k.may = true) (hl : 0 ≤ lim ∧ lim ≤ 1000) (hi : Idle M m me) : DoOk M.L me t (.new M.L k lim) N ∧ Own M me m (.new M.L k lim) := by
 have hth := hL.th
 refine ⟨⟨hk, hl, by simp [DoS.new], fun _ => ⟨by simp only [DoS.new, HdS.new]; omega, by simp only [DoS.new, HdS.new]; omega⟩, ?_, ?_, ?_, ?_, ?_, ?_, ?_⟩, own_idle hi (by simp [DoS.new])⟩ <;> (intro e; simp [DoS.new] at e)
theorem do_task (M : ML) (me : Int) (m : Mm) (t : StS) (d : DoS) : (stepDo M me m t d).2.2.2.task = d.task := by
 have hl : ∀ (x : DoS), (x.leave me).task = x.task := fun _ => rfl
 have ht : ∀ (x : DoS), (x.try_ M.L me).task = x.task := fun _ => rfl
 have hw : ∀ (x : DoS) (t : StS), (x.want M.L me t).task = x.task := fun x t => by unfold DoS.want; split <;> rfl
 have hto : ∀ (x : DoS) (r : Rsl), (x.told M.L me r).task = x.task := fun x r => by unfold DoS.told; simp only; split <;> rfl
 by_cases h0 : d.at_ = 0
 ·rw [stepDo_0 h0]; simp only; split
  ·unfold DoS.looked; split
   ·exact hw _ _
   ·rfl
  ·rfl
 by_cases h1 : d.at_ = 1
 ·rw [stepDo_1 h1]; simp only; split
  ·exact hw _ _
  ·rfl
 by_cases h2 : d.at_ = 2
 ·rw [stepDo_2 h2]; simp only; split
  ·unfold DoS.ensured; split
   ·rfl
   ·exact ht _
  ·rfl
 by_cases h3 : d.at_ = 3
 ·rw [stepDo_3 h3]; simp only; split
  ·unfold DoS.tried; split
   ·exact hto _ _
   ·rfl
  ·rfl
 by_cases h4 : d.at_ = 4
 ·rw [stepDo_4 h4]; simp only; split <;> rfl
 by_cases h5 : d.at_ = 5
 ·rw [stepDo_5 h5]; simp only; split <;> rfl
 by_cases h6 : d.at_ = 6
 ·rw [stepDo_6 h6]; exact hto _ _
 by_cases h7 : d.at_ = 7
 ·rw [stepDo_7 h7]; split
  ·rfl
  ·rfl
 by_cases h8 : d.at_ = 8
 ·rw [stepDo_8 h8]; split <;> rfl
 ·unfold stepDo
  simp only
  rw [if_neg h0, if_neg h1, if_neg h2, if_neg h3, if_neg h4, if_neg h5, if_neg h6, if_neg h7, if_neg h8]
structure Now (M : ML) (e : EgS) (u : Nat) : Prop where
 ok : DoOk M.L u (e.ws u).st (e.now_ M.L u) e.steps
 own : Own M u e.m (e.now_ M.L u)
 task : (e.ws u).tasks[(e.ws u).ended]? = some (e.now_ M.L u).task
theorem EgOk.now {M : ML} {e : EgS} (h : EgOk M e) {u : Nat} (hu : u < M.L.th.toNat) (hl : (e.ws u).left ≠ 0) : Now M e u := by
 have hw := h.ws u hu
 cases hn : (e.ws u).now with
 | some d =>
  have hd : e.now_ M.L u = d := by unfold EgS.now_; rw [hn]; rfl
  exact ⟨by rw [hd]; exact (hw.now d hn).1, by rw [hd]; exact (hw.now d hn).2.1, by rw [hd]; exact (hw.now d hn).2.2⟩
 | none =>
  have hd : e.now_ M.L u = .new M.L ((e.ws u).tasks.getD (e.ws u).ended .zero) e.tries := by unfold EgS.now_; rw [hn]; rfl
  have hlt : (e.ws u).ended < (e.ws u).tasks.length := by
   have := hw.le
   unfold WkS.left at hl
   omega
  have hg : (e.ws u).tasks.getD (e.ws u).ended .zero = (e.ws u).tasks[(e.ws u).ended] := by simp [List.getD_eq_getElem?_getD, List.getElem?_eq_getElem hlt]
  have hk : ((e.ws u).tasks[(e.ws u).ended]).may = true := hw.may _ (List.getElem_mem hlt)
  have := do_new_ok (t := (e.ws u).st) (N := e.steps) (k := (e.ws u).tasks.getD (e.ws u).ended .zero) (lim := e.tries) h.lay (by rw [hg]; exact hk) (by have := h.tries; omega) (hw.idle hn)
  refine ⟨by rw [hd]; exact this.1, by rw [hd]; exact this.2, ?_⟩
  rw [hd]
  simp only [DoS.new]
  rw [List.getElem?_eq_getElem hlt, hg]
theorem can_true {M : ML} {e : EgS} {u : Int} (h : e.can M u = true) : 0 ≤ u ∧ u < M.L.th ∧ (e.ws u.toNat).left ≠ 0 ∧ e.steps < 60000 := by
 unfold EgS.can at h
 simp only [Bool.and_eq_true, decide_eq_true_eq] at h
 exact ⟨h.1.1.1, h.1.1.2, h.1.2, h.2⟩
theorem EgOk.fine {M : ML} {e : EgS} (h : EgOk M e) {u : Int} (hc : e.can M u = true) : (e.now_ M.L u.toNat).Fine M e.m (e.ws u.toNat).st := by
 obtain ⟨h0, h1, h2, h3⟩ := can_true hc
 have hu : u.toNat < M.L.th.toNat := by omega
 have hn := h.now hu h2
 exact hn.ok.fine h.lay h.mem (by omega) (h.ws _ hu).st (by omega) (by have := h.steps; omega)
theorem hist_mid {M : ML} {e : EgS} (h : EgOk M e) {u : Nat} (hu : u < M.L.th.toNat) : (e.hist_ M.L u).evs.length = e.hist.evs.length + (if (e.ws u).now.isNone then 1 else 0) ∧ 0 < (e.hist_ M.L u).now u ∧ ∀ v, v < M.L.th.toNat → v ≠ u → (e.hist_ M.L u).now v = e.hist.now v := by
 have hth := h.lay.th
 unfold EgS.hist_
 cases hn : (e.ws u).now with
 | some d =>
  have := (h.hnow u hu).2 (by rw [hn]; simp)
  exact ⟨by simp, by simpa using this, fun v _ _ => by simp⟩
 | none =>
  have h0 : ¬ 0 < e.hist.now u := fun e2 => (h.hnow u hu).1 e2 hn
  have he : e.hist.errB (u : Int) = 0 := by
   unfold HS.errB
   rw [if_neg (by omega), Int.toNat_natCast, if_neg h0]
  simp only [Option.isNone_none, if_true]
  unfold HS.begin_
  rw [if_pos he, Int.toNat_natCast]
  refine ⟨by simp [HS.doB], by simp only [HS.doB, if_true]; omega, fun v _ hv => by simp [HS.doB, hv]⟩
theorem EgOk.next {M : ML} {e : EgS} (h : EgOk M e) {u : Nat} (hu : u < M.L.th.toNat) (hl : (e.ws u).left ≠ 0) (hs : e.steps < 60000) : EgOk M (e.next M u) ∧ Rel M u e.m (e.next M u).m := by
 have hn := h.now hu hl
 have hw := h.ws u hu
 have hth := h.lay.th
 have hgo : DoGo M u e.m e.steps (e.did M u) := do_step h.lay h.mem (by omega) (by omega) hw.st hn.ok hn.own
 have htk : (e.did M u).2.2.2.task = (e.now_ M.L u).task := do_task M u e.m (e.ws u).st (e.now_ M.L u)
 have hhm := hist_mid h hu
 have hlt := (List.getElem?_eq_some_iff.1 hn.task).1
 have hws : ∀ v, v ≠ u → (e.next M u).ws v = e.ws v := fun v hv => by simp only [EgS.next, updW, if_neg hv]
 have hwu : (e.next M u).ws u = WkS.stop ((e.ws u).with_ (e.now_ M.L u)) (e.did M u) := by simp only [EgS.next, updW, if_true]
 have hmm : (e.next M u).m = (e.did M u).2.1 := rfl
 have hst : (e.next M u).steps = e.steps + 1 := rfl
 have hevu : ((e.next M u).ws u).evs = (e.ws u).evs + (if (e.ws u).now.isNone then 1 else 0) + (if (e.did M u).1 then 1 else 0) := by
  rw [hwu]
  unfold WkS.stop WkS.evs
  cases hr : (e.did M u).1 with
  | true => cases hnn : (e.ws u).now <;> simp <;> omega
  | false => cases hnn : (e.ws u).now <;> simp <;> omega
 have hsum := wsum_upd (f := fun v => ((e.next M u).ws v).evs) (g := fun v => (e.ws v).evs) (u := u) M.L.th.toNat hu (fun v hv => by simp only [hws v hv])
 have hH : (e.next M u).hist = if (e.did M u).1 then (e.hist_ M.L u).end_ (u : Int) (e.did M u).2.2.2.res.code (e.did M u).2.2.2.res.ok (e.did M u).2.2.2.res.val else e.hist_ M.L u := rfl
 have herr : (e.hist_ M.L u).errE (u : Int) = 0 := by
  unfold HS.errE
  rw [if_neg (by omega), Int.toNat_natCast, if_pos hhm.2.1]
 refine ⟨⟨h.lay, hgo.rel.ok h.mem, h.tries, fun v hv => ?_, by rw [hst]; omega, ?_, fun v hv => ?_⟩, hgo.rel⟩
 ·by_cases hvu : v = u
  ·subst hvu
   rw [hwu, hmm, hst]
   have hc : ((e.steps + 1 : Nat) : Int) = (e.steps : Int) + 1 := by omega
   rw [hc]
   unfold WkS.stop
   cases hr : (e.did M v).1 with
   | true =>
    simp only [if_true]
    exact ⟨hgo.st, hw.may, hw.few, by simp only; omega, fun _ => hgo.fin hr, fun d hd => by simp at hd⟩
   | false =>
    simp only [Bool.false_eq_true, if_false]
    exact ⟨hgo.st, hw.may, hw.few, hw.le, fun hd => by simp at hd, fun d hd => by
     injection hd with hd
     subst hd
     exact ⟨(hgo.ok hr).1, (hgo.ok hr).2, by rw [htk]; exact hn.task⟩⟩
  ·rw [hws v hvu, hmm, hst]
   exact (h.ws v hv).rel hgo.rel h.mem (by omega) (by omega) (by omega)
 ·have h1 := h.evs
  have h2 := hhm.1
  rw [hH]
  rw [hevu] at hsum
  split
  ·rename_i hr
   rw [if_pos hr] at hsum
   unfold HS.end_
   rw [if_pos herr]
   have : ((e.hist_ M.L u).doE (u : Int).toNat (e.did M u).2.2.2.res.code (e.did M u).2.2.2.res.ok (e.did M u).2.2.2.res.val).evs.length = (e.hist_ M.L u).evs.length + 1 := by simp [HS.doE]
   omega
  ·rename_i hr
   rw [if_neg hr] at hsum
   omega
 ·rw [hH]
  by_cases hvu : v = u
  ·subst hvu
   rw [hwu]
   unfold WkS.stop
   cases hr : (e.did M v).1 with
   | true =>
    simp only [if_true]
    unfold HS.end_
    rw [if_pos herr, Int.toNat_natCast]
    simp [HS.doE]
   | false =>
    simp only [Bool.false_eq_true, if_false]
    simp [hhm.2.1]
  ·rw [hws v hvu, ← h.hnow v hv]
   have h3 := hhm.2.2 v hv hvu
   split
   ·unfold HS.end_
    rw [if_pos herr, Int.toNat_natCast]
    simp only [HS.doE, if_neg hvu, h3]
   ·rw [h3]
theorem EgOk.pick {M : ML} {e : EgS} (h : EgOk M e) (u : Int) : EgOk M (e.pick M u) ∧ (e.can M u = true → Rel M u e.m (e.pick M u).m) := by
 unfold EgS.pick
 split
 ·rename_i hc
  obtain ⟨h0, h1, h2, h3⟩ := can_true hc
  have := h.next (u := u.toNat) (by omega) h2 h3
  refine ⟨this.1, fun _ => ?_⟩
  have e1 : ((u.toNat : Nat) : Int) = u := by omega
  rw [← e1]; exact this.2
 ·rename_i hc
  exact ⟨h, fun e2 => absurd e2 hc⟩
theorem EgOk.init {M : ML} {shape tries : Int} {ops : List (List Opn)} (hc : CfgOk shape tries M.L) (h40 : ∀ l ∈ ops, l.length ≤ 40) (hmay : ∀ l ∈ ops, l.all (may shape) = true) : EgOk M (.init shape tries ops) := by
 have hL := hc.lay
 have hz : ∀ a, ld M (fun _ => 0) a = 0 := fun a => by unfold ld; split <;> rfl
 have hg : ∀ u, ∀ l, l = ops.getD u [] → l.length ≤ 40 ∧ l.all (may shape) = true := fun u l hl => by
  subst hl
  by_cases hu : u < ops.length
  ·rw [List.getD_eq_getElem?_getD, List.getElem?_eq_getElem hu]
   exact ⟨h40 _ (List.getElem_mem hu), hmay _ (List.getElem_mem hu)⟩
  ·rw [List.getD_eq_getElem?_getD, List.getElem?_eq_none (by omega)]
   exact ⟨by simp, rfl⟩
 refine ⟨hL, ⟨fun i => by simp [EgS.init], fun a _ _ => ?_, fun v _ _ => ?_⟩, hc.tries, fun u hu => ⟨⟨?_, fun x hx => by simp [EgS.init, initW] at hx, ?_⟩, fun t ht => ?_, ?_, by simp [EgS.init, initW], fun _ => .inl ?_, fun d hd => by simp [EgS.init, initW] at hd⟩, by simp [EgS.init], by simp [EgS.init, HS.new], fun u hu => ?_⟩
 ·have := hL.nd
  rw [show (EgS.init shape tries ops).m = fun _ => 0 from rfl, hz]
  exact zero_next M.L hL
 ·rw [show (EgS.init shape tries ops).m = fun _ => 0 from rfl, hz]
  exact ⟨by simp [getD'], fun h5 => by simp [getD'] at h5⟩
 ·have := hL.nd
  simp only [EgS.init, initW]; omega
 ·simp [EgS.init, initW]
 ·simp only [EgS.init, initW, tasksOf, List.mem_map] at ht
  obtain ⟨o, ho, rfl⟩ := ht
  exact List.all_eq_true.1 (hg u _ rfl).2 o ho
 ·simp only [EgS.init, initW, tasksOf, List.length_map]
  exact (hg u _ rfl).1
 ·unfold stt
  rw [show (EgS.init shape tries ops).m = fun _ => 0 from rfl, hz]
  simp [getD']
 ·simp [EgS.init, initW, HS.new]
def EgS.turns (M : ML) (e : EgS) (u : Int) : Nat → EgS
 | 0 => e
 | k + 1 => (EgS.turns M e u k).pick M u
def exOps : List (List Opn) := [[⟨4, 5⟩], [⟨5, 0⟩]]
abbrev exE0 : EgS := .init 3 0 exOps
def okAll (M : ML) (e : EgS) (u : Int) : Nat → Bool
 | 0 => true
 | k + 1 => okAll M e u k && ((EgS.turns M e u k).can M u && decide ((EgS.turns M e u k).left_ M.L u = e.left_ M.L u))
theorem okAll_at {M : ML} {e : EgS} {u : Int} : ∀ {k : Nat}, okAll M e u k = true → ∀ i, i < k → (EgS.turns M e u i).can M u = true ∧ (EgS.turns M e u i).left_ M.L u = e.left_ M.L u
 | 0, _, i, hi => absurd hi (by omega)
 | k + 1, h, i, hi => by
  unfold okAll at h
  simp only [Bool.and_eq_true, decide_eq_true_eq] at h
  by_cases e2 : i = k
  ·subst e2; exact h.2
  ·exact okAll_at h.1 i (by omega)
abbrev exM (b wb : Nat) : ML := ⟨b, wb, ⟨2, 6⟩⟩
def exE1 (M : ML) : EgS := EgS.turns M exE0 0 10
def exE2 (M : ML) : EgS := EgS.turns M (exE1 M) 1 14
theorem ex_ok1 (b wb : Nat) : okAll (exM b wb) exE0 0 10 = true := by kernel_rfl
theorem ex_left1 (b wb : Nat) : (exE1 (exM b wb)).left_ ⟨2, 6⟩ 0 = 0 ∧ exE0.left_ ⟨2, 6⟩ 0 = 1 := ⟨by kernel_rfl, by kernel_rfl⟩
theorem ex_ok2 (b wb : Nat) : okAll (exM b wb) (exE1 (exM b wb)) 1 14 = true := by kernel_rfl
theorem ex_left2 (b wb : Nat) : (exE2 (exM b wb)).left_ ⟨2, 6⟩ 1 = 0 ∧ (exE1 (exM b wb)).left_ ⟨2, 6⟩ 1 = 1 := ⟨by kernel_rfl, by kernel_rfl⟩
theorem ex_calls (b wb : Nat) : (exE2 (exM b wb)).hist.calls = [⟨0, 1, 0, 0, 4, 5, 0, true, 0⟩, ⟨2, 3, 1, 1, 5, 0, 0, true, 5⟩] := by kernel_rfl
theorem turns_ok {M : ML} {e : EgS} (h : EgOk M e) (u : Int) : ∀ k, EgOk M (EgS.turns M e u k)
 | 0 => h
 | k + 1 => ((turns_ok h u k).pick u).1
theorem solo_turn {w : World} {C : Nat → Nat} {b : Nat} {E : EgL} {e : EgS} (h : EgAt w C b E e) (hok : EgOk E.M e) (u : Int) (k : Nat) (hk : okAll E.M e u k = true) (hl : (EgS.turns E.M e u k).left_ E.M.L u ≠ e.left_ E.M.L u) :
  Calls Tryz.prog 39 #[.pointer (some ⟨b, 0, none⟩), .int .i64 u] w (PkW C b E (.tuple #[]) (EgS.turns E.M e u k) w) := by
 have HLE := fun W C' e' (h : EgAt W C' b E e') => engine_Left h u
 have HPI := fun W C' (i : Nat) (h : EgAt W C' b E (EgS.turns E.M e u i)) => engine_Pick h u (by have := (turns_ok hok u i).len; omega) (fun hc => (turns_ok hok u i).fine hc)
 have HAT := Lib.hid (okAll_at hk)
 obtain ⟨lf, hlf⟩ : ∃ lf, e.left_ E.M.L u = lf := ⟨_, rfl⟩
 have HL0 := HLE w C e h
 rw [hlf] at HL0 hl
 have HLF := Lib.hid hlf
 have HL := Lib.hid hl
 clear hk hlf hl
 go_enter Tryz.func39, Tryz.ntmps39
 go_wp2_with fail
 refine HL0.mono ?_
 rintro r w1 ⟨rfl, hb1⟩
 go_wp2_with fail
 go_loopg [] (k + 1) (fun g wr => ∃ (i : Nat) (C' : Nat → Nat), (i + g = k + 1 ∧ i ≤ k) ∧ Agr w.heap.size C C' ∧ EgAt wr C' b E (EgS.turns E.M e u i) ∧ FrE E.B C w wr)
 case atStart => exact ⟨0, C, ⟨by omega, by omega⟩, Agr.refl _ _, h.step hb1, (FrE.refl E.B C w).step hb1⟩
 case round =>
  obtain ⟨i, C', ⟨hig, hik⟩, hag, hE, hfr⟩ := hrel
  go_wp2_with fail
  refine (HLE wr C' _ hE).mono ?_
  rintro r w2 ⟨rfl, hb2⟩
  have hE2 := hE.step hb2
  have hfr2 := hfr.step hb2
  by_cases hlt : i < k
  ·obtain ⟨hc, hle⟩ := HAT.out i hlt
   rw [HLF.out] at hle
   rw [hle]
   clear hE hfr hb2
   go_wp2_with fail
   have HP := HPI w2 C' i hE2
   rw [hc] at HP
   refine HP.mono ?_
   rintro r w3 ⟨rfl, ⟨C3, ag3, hE3⟩, hf3⟩
   have hag3 := hag.trans ag3 hfr2.size
   have hfr3 := hfr2.comp hf3 hag
   clear hE2 hf3 ag3 HP hfr2
   go_wp2_with fail
   go_roundg (k - i)
   case measure => omega
   case rel => exact ⟨i + 1, C3, ⟨by omega, by omega⟩, hag3, hE3, hfr3⟩
  ·obtain rfl : i = k := by omega
   have hne := HL.out
   have dne : ((EgS.turns E.M e u i).left_ E.M.L u == lf) = false := beq_false_of_ne hne
   clear hE hfr hb2
   go_wp2_with fail
   go_end0
   exact ⟨rfl, ⟨C', hag, hE2⟩, hfr2⟩
theorem info_OpX : (Tryz.prog.info? 46).map (fun i => (i.zero, i.size, i.bytes)) = some (some (.agg #[.int .i64 0, .int .i64 0]), 2, 16) := by kernel_rfl
theorem turnSz : (Tryz.prog.info? 67).map (·.size) = some 3 := by kernel_rfl
theorem info_sop : (Tryz.prog.info? 52).map (fun i => (i.zero, i.size, i.bytes)) = some (some (.slice none 0 0), 1, 24) := by kernel_rfl
theorem run_lists (W : World) : (Instr.makeSlice 22 (.int .i64 2) (.int .i64 2)).run Tryz.prog W = .ok (.slice (some ⟨W.heap.size, 0, none⟩) 2 2) (W.alloc (.cells #[.slice none 0 0, .slice none 0 0] 52)) := by
 obtain ⟨i0, hi, hz0, hz1, hz2⟩ := info_parts info_sop
 rw [run_make W 22 52 i0 _ Tryz.underlying22 hi hz0 .i64 .i64 2 2 (by omega) (Int.le_refl _) (by rw [hz2]; decide) (by omega), hz1]
 rw [show madeCells (Value.slice none 0 0).cells (Int.toNat 2 * 1) = #[.slice none 0 0, .slice none 0 0] by kernel_rfl]
 rfl
abbrev exTurns : Array Value := #[.int .i64 0, .int .i64 4, .int .i64 5, .int .i64 1, .int .i64 5, .int .i64 0]
abbrev exCfg : Array Value := #[.int .i64 3, .int .i64 2, .int .i64 6, .int .i64 0]
structure Got (w : World) (ob : Nat) (v : Value) (k x : Int) : Prop where
 ex : ∃ g c cur, v = .slice (some ⟨g, 0, none⟩) 1 c ∧ g ≠ ob ∧ Blk w g 46 cur ∧ cur[0]? = some (.int .i64 k) ∧ cur[1]? = some (.int .i64 x)
theorem Got.step {w w' : World} {ob : Nat} {v : Value} {k x : Int} (h : Got w ob v k x) (hb : Below w.heap.size w w') : Got w' ob v k x := by
 obtain ⟨g, c, cur, h1, h2, h3, h4⟩ := h.ex
 exact ⟨g, c, cur, h1, h2, h3.step hb, h4⟩
theorem Got.set {w : World} {ob : Nat} {v : Value} {k x : Int} (h : Got w ob v k x) (i : Nat) (u : Value) : Got (w.setCell ⟨ob, i, none⟩ u) ob v k x := by
 obtain ⟨g, c, cur, h1, h2, h3, h4⟩ := h.ex
 exact ⟨g, c, cur, h1, h2, h3.far h2 _, h4⟩
theorem Got.of_own {w : World} {base ob g0 cap : Nat} {k x : Int} (h : w.ownsRow base 46 2 (.slice (some ⟨g0, 0, none⟩) 1 cap) 1 [.int .i64 k, .int .i64 x]) (hb : ob < base) : Got w ob (.slice (some ⟨g0, 0, none⟩) 1 cap) k x := by
 rcases h.2 with ⟨h0, h1⟩ | ⟨g, c, cur, hv, hbg, hg, hnc, hcm, hcs, htake⟩
 ·cases h1
 ·have e1 : cur.toList[0]? = some (.int .i64 k) := by
   have := congrArg (fun l => l[0]?) htake
   simpa [List.getElem?_take] using this
  have e2 : cur.toList[1]? = some (.int .i64 x) := by
   have := congrArg (fun l => l[1]?) htake
   simpa [List.getElem?_take] using this
  exact ⟨g, c, cur, hv, by omega, hg, by simpa using e1, by simpa using e2⟩
theorem Got.sl {w : World} {ob : Nat} {v : Value} {k x : Int} (h : Got w ob v k x) : ∃ A c, v = .slice A 1 c ∧ Sl w w.heap.size 2 A 1 [.int .i64 k, .int .i64 x] := by
 obtain ⟨g, c, cur, rfl, h2, h3, h4, h5⟩ := h.ex
 refine ⟨_, _, rfl, rfl, fun _ => rfl, fun _ => h3.lt, fun j hj => ?_⟩
 rw [show ablk (some (⟨g, 0, none⟩ : Addr)) = g from rfl, show aoff (some (⟨g, 0, none⟩ : Addr)) = 0 from rfl, Nat.zero_add, h3.cell]
 match j, hj with
 | 0, _ => rw [h4]; rfl
 | 1, _ => rw [h5]; rfl
structure BegI (w0 : World) (cb ob : Nat) (k : Nat) (wr : World) : Prop where
 bel : Below w0.heap.size w0 wr
 cfg : Blk wr cb 65 exCfg
 ex : ∃ v0 v1, Blk wr ob 52 #[v0, v1] ∧ (if k = 0 then v0 = .slice none 0 0 else Got wr ob v0 4 5) ∧ (if k ≤ 1 then v1 = .slice none 0 0 else Got wr ob v1 5 0)
 ob : w0.heap.size ≤ ob ∧ cb ≠ ob
theorem exCfgOk : CfgOk 3 0 ⟨2, 6⟩ := ⟨by omega, by omega, ⟨by simp, by simp⟩⟩
structure BegW (w : World) (e : Ending) (w' : World) : Prop where
 ex : ∃ b E C', e = .returned (.tuple #[.pointer (some ⟨b, 0, none⟩), .int .i64 0]) ∧ E.M.L = ⟨2, 6⟩ ∧ w.heap.size ≤ E.B ∧ (∀ g, g < w.heap.size → C' g = 0) ∧ EgAt w' C' b E exE0
 bel : Below w.heap.size w w'
theorem solo_begin (w : World) (tb : Nat) (ht : Blk w tb 67 exTurns) : Calls Tryz.prog 38 #[.agg exCfg, .slice (some ⟨tb, 0, none⟩) 2 2] w (BegW w) := by
 have HN := fun (A : Option Addr) (n cap B : Nat) (ops : List (List Opn)) (W : World) (hs : OpsAt W B A n ops) (hB : B ≤ W.heap.size) (h40 : ∀ l ∈ ops, l.length ≤ 40) (hn : (n : Int) ≤ 2) (hmay : ∀ l ∈ ops, l.all (may 3) = true) => engine_New 3 0 ⟨2, 6⟩ exCfgOk A n cap B ops W hs hB h40 hn hmay (fun _ => 0) (fun _ _ => rfl)
 have hmk := run_lists
 obtain ⟨iO, hiO, zO, sO, bO⟩ := info_parts info_OpX
 have hb1 : Below w.heap.size w (w.alloc (.cells exCfg 65)) := (Below.refl _ _).alloc (Nat.le_refl _) _
 have hcb := Blk.new w 65 exCfg
 have hc := hcb.cells
 obtain ⟨cb, hcbe⟩ : ∃ cb, w.heap.size = cb := ⟨_, rfl⟩
 have HC := Lib.hid hcbe
 simp only [hcbe] at hcb hc hb1
 go_enter Tryz.func38, Tryz.ntmps38
 go_wp2_with fail
 try simp only [hcbe]
 clear hcbe
 generalize (w.alloc (.cells exCfg 65)) = w1 at *
 refine (HN none 0 0 0 [] w1 ⟨rfl, [], Sl.nil_ _ _ _, fun i l hl => by simp at hl⟩ (Nat.zero_le _) (by simp) (by omega) (by simp)).mono ?_
 rintro r w2 ⟨⟨b0, E0, C0, rfl, -, -, -, -⟩, hb2⟩
 replace hcb := hcb.step hb2
 replace hb1 := hb1.trans (hb2.mono (by have := HC.out; have := hb1.size; omega))
 clear hb2 hc
 have hc := hcb.cells
 go_wp2_with fail
 have hob := Blk.new w2 52 #[.slice none 0 0, .slice none 0 0]
 have hal : Below w2.heap.size w2 (w2.alloc (.cells #[.slice none 0 0, .slice none 0 0] 52)) := (Below.refl _ _).alloc (Nat.le_refl _) _
 have hlt := hcb.lt
 replace hcb := hcb.step hal
 have hsz : cb ≤ w2.heap.size := by have := HC.out; have := hb1.size; omega
 replace hb1 := hb1.trans (hal.mono hsz)
 clear hc
 generalize (w2.alloc (.cells #[.slice none 0 0, .slice none 0 0] 52)) = w3 at *
 obtain ⟨ob, hobe⟩ : ∃ ob, w2.heap.size = ob := ⟨_, rfl⟩
 simp only [hobe] at *
 have hI0 : BegI w cb ob 0 w3 := ⟨by rw [HC.out]; exact hb1, hcb, ⟨_, _, hob, rfl, rfl⟩, by rw [HC.out]; exact hsz, by omega⟩
 clear hal hlt hcb hsz hb1 hob hobe
 go_loopw [24] (fun i wr => ∃ k : Nat, k ≤ 2 ∧ i = .int .i64 k ∧ BegI w cb ob k wr) (fun i _ => 2 - (intOf i).toNat)
 case atStart => exact ⟨0, by omega, rfl, hI0⟩
 case round =>
  clear hI0
  obtain ⟨k, hk, rfl, hI⟩ := hrel
  obtain ⟨hbel, hcb, ⟨v0, v1, hob, hv0, hv1⟩, hob0, hne⟩ := hI
  have htb := ht.step hbel
  have htc := htb.cells
  have hcc := hcb.cells
  have hlt := hcb.lt
  by_cases hlt2 : k < 2
  ·rcases Nat.lt_or_ge k 1 with h01 | h01
   ·obtain rfl : k = 0 := by omega
    have dk : decide (((0 : Nat) : Int) < 2) = true := decide_eq_true (by omega)
    rw [if_pos (by omega)] at hv0 hv1
    subst hv0
    have hix := (show Sl wr wr.heap.size 3 (some ⟨tb, 0, none⟩) 2 exTurns.toList from ⟨rfl, fun _ => rfl, fun _ => htb.lt, fun j hj => by rw [show ablk (some (⟨tb, 0, none⟩ : Addr)) = tb from rfl, show aoff (some (⟨tb, 0, none⟩ : Addr)) = 0 from rfl, Nat.zero_add, htb.cell]; simp⟩).idx (P := Tryz.prog) (c := 2) Tryz.underlying102 turnSz (k := 0) (by omega)
    go_wp2_with fail
    have htx := Blk.new wr 67 #[.int .i64 0, .int .i64 4, .int .i64 5]
    have hal : Below wr.heap.size wr (wr.alloc (.cells #[.int .i64 0, .int .i64 4, .int .i64 5] 67)) := (Below.refl _ _).alloc (Nat.le_refl _) _
    replace hbel := hbel.trans (hal.mono hbel.size)
    replace hob := hob.step hal
    replace hcb := hcb.step hal
    skip
    clear hal htb htc hcc
    have htc := htx.cells
    have hcc := hcb.cells
    have hoc := hob.cells
    go_wp2_with fail
    generalize (wr.alloc (.cells #[.int .i64 0, .int .i64 4, .int .i64 5] 67)) = w4 at *
    obtain ⟨xb, hxb⟩ : ∃ xb, wr.heap.size = xb := ⟨_, rfl⟩
    simp only [hxb] at htx htc ⊢
    clear hxb htc hcc hoc
    have q1 := Later.cells (B := w4.heap.size) htx htx.lt
    have q2 := Later.cells (B := w4.heap.size) hob hob.lt
    refine wp_region_ph (fun w' => ∃ q : Later w4.heap.size w4, w' = q.val) 13 [([0, 1, 2, 3, 4, 5, 6, 7, 8, 9], 10), ([], 11)] [12] [13] (by kernel_rfl) (by kernel_rfl) (Later.mk_ (Below.refl _ _).drew) ?_
    refine wpPh_cons ?_
    simp only [opsAt, List.map_cons, List.map_nil, List.getD_cons_zero, List.getD_cons_succ]
    repeat (go_big_quiet_step (fail))
    refine wpQuiet_nil ?_
    refine wpPh_op rfl (fun K' hK' => ?_)
    go_simp
    have hal : Below w4.heap.size w4 (w4.alloc (.cells #[.int .i64 4, .int .i64 5] 46)).drew := ((Below.refl _ _).alloc (Nat.le_refl _) _).drew
    refine hK' _ _ (Later.mk_ hal) ?_
    clear hK' K'
    refine wpPh_cons ?_
    simp only [opsAt, List.map_nil]
    refine wpQuiet_nil ?_
    refine wpPh_op rfl (fun K' hK' => ?_)
    have hnb := Blk.new w4 46 #[.int .i64 4, .int .i64 5]
    have hs4 := hal.size
    refine wp_append_lies _ _ _ _ rfl w4.heap.size 46 iO _ 2 16 Tryz.underlying52 hiO zO sO bO rfl (by omega) (.slice none 0 0) 0 [] rfl ⟨rfl, .inl ⟨rfl, rfl⟩⟩ ⟨w4.heap.size, 0, none⟩ 1 1 [.int .i64 4, .int .i64 5] rfl rfl (World.news_of_block (w := (w4.alloc (.cells #[.int .i64 4, .int .i64 5] 46)).drew) hnb) (fun u hu => by simp at hu; rcases hu with rfl | rfl <;> rfl) (by omega) (by decide) (by omega) hs4 _ rfl ?_
    intro g9 cap9 w6 hown hgrow _ hlt6
    have hb6 : Below w4.heap.size w4 w6 := hal.trans (((Below.refl _ _).grown hgrow hs4 (fun k e => by cases e)).mono (Nat.le_refl _))
    go_simp
    refine hK' _ _ (Later.mk_ hb6) ?_
    clear hK' K'
    refine wpPh_nil ?_
    try simp only [opsAt, List.map_cons, List.map_nil, List.getD_cons_zero, List.getD_cons_succ]
    repeat (go_big_quiet_step (fail))
    refine wpQuiet_nil ?_
    refine wpTail_late _ _ _ (by kernel_rfl) ?_
    try simp only [opsAt, List.map_cons, List.map_nil, List.getD_cons_zero, List.getD_cons_succ]
    clear q1 q2
    have hg := Got.of_own (ob := ob) hown hob.lt
    have hbl := hbel.trans (hb6.mono hbel.size)
    replace hob := hob.step hb6
    replace hcb := hcb.step hb6
    skip
    have hoc := hob.cells
    have hof := hob.frees
    clear hb6 hal hgrow hnb hown
    go_wp2_with fail
    refine NoPanic.normal ?_
    go_wp2_with fail
    go_roundw
    case rel => exact ⟨1, by omega, by go_num, hbl.trans ((Below.refl _ _).setCell (by omega) _), hcb.far hne _, ⟨_, _, hob.set_ 0 _, hg.set _ _, hv1⟩, hob0, hne⟩
    case measure => simp [intOf]
   ·obtain rfl : k = 1 := by omega
    have dk : decide (((1 : Nat) : Int) < 2) = true := decide_eq_true (by omega)
    rw [if_neg (by omega)] at hv0; rw [if_pos (by omega)] at hv1
    subst hv1
    have hix := (show Sl wr wr.heap.size 3 (some ⟨tb, 0, none⟩) 2 exTurns.toList from ⟨rfl, fun _ => rfl, fun _ => htb.lt, fun j hj => by rw [show ablk (some (⟨tb, 0, none⟩ : Addr)) = tb from rfl, show aoff (some (⟨tb, 0, none⟩ : Addr)) = 0 from rfl, Nat.zero_add, htb.cell]; simp⟩).idx (P := Tryz.prog) (c := 2) Tryz.underlying102 turnSz (k := 1) (by omega)
    go_wp2_with fail
    have htx := Blk.new wr 67 #[.int .i64 1, .int .i64 5, .int .i64 0]
    have hal : Below wr.heap.size wr (wr.alloc (.cells #[.int .i64 1, .int .i64 5, .int .i64 0] 67)) := (Below.refl _ _).alloc (Nat.le_refl _) _
    replace hbel := hbel.trans (hal.mono hbel.size)
    replace hob := hob.step hal
    replace hcb := hcb.step hal
    replace hv0 := Got.step hv0 hal
    clear hal htb htc hcc
    have htc := htx.cells
    have hcc := hcb.cells
    have hoc := hob.cells
    go_wp2_with fail
    generalize (wr.alloc (.cells #[.int .i64 1, .int .i64 5, .int .i64 0] 67)) = w4 at *
    obtain ⟨xb, hxb⟩ : ∃ xb, wr.heap.size = xb := ⟨_, rfl⟩
    simp only [hxb] at htx htc ⊢
    clear hxb htc hcc hoc
    have q1 := Later.cells (B := w4.heap.size) htx htx.lt
    have q2 := Later.cells (B := w4.heap.size) hob hob.lt
    refine wp_region_ph (fun w' => ∃ q : Later w4.heap.size w4, w' = q.val) 13 [([0, 1, 2, 3, 4, 5, 6, 7, 8, 9], 10), ([], 11)] [12] [13] (by kernel_rfl) (by kernel_rfl) (Later.mk_ (Below.refl _ _).drew) ?_
    refine wpPh_cons ?_
    simp only [opsAt, List.map_cons, List.map_nil, List.getD_cons_zero, List.getD_cons_succ]
    repeat (go_big_quiet_step (fail))
    refine wpQuiet_nil ?_
    refine wpPh_op rfl (fun K' hK' => ?_)
    go_simp
    have hal : Below w4.heap.size w4 (w4.alloc (.cells #[.int .i64 5, .int .i64 0] 46)).drew := ((Below.refl _ _).alloc (Nat.le_refl _) _).drew
    refine hK' _ _ (Later.mk_ hal) ?_
    clear hK' K'
    refine wpPh_cons ?_
    simp only [opsAt, List.map_nil]
    refine wpQuiet_nil ?_
    refine wpPh_op rfl (fun K' hK' => ?_)
    have hnb := Blk.new w4 46 #[.int .i64 5, .int .i64 0]
    have hs4 := hal.size
    refine wp_append_lies _ _ _ _ rfl w4.heap.size 46 iO _ 2 16 Tryz.underlying52 hiO zO sO bO rfl (by omega) (.slice none 0 0) 0 [] rfl ⟨rfl, .inl ⟨rfl, rfl⟩⟩ ⟨w4.heap.size, 0, none⟩ 1 1 [.int .i64 5, .int .i64 0] rfl rfl (World.news_of_block (w := (w4.alloc (.cells #[.int .i64 5, .int .i64 0] 46)).drew) hnb) (fun u hu => by simp at hu; rcases hu with rfl | rfl <;> rfl) (by omega) (by decide) (by omega) hs4 _ rfl ?_
    intro g9 cap9 w6 hown hgrow _ hlt6
    have hb6 : Below w4.heap.size w4 w6 := hal.trans (((Below.refl _ _).grown hgrow hs4 (fun k e => by cases e)).mono (Nat.le_refl _))
    go_simp
    refine hK' _ _ (Later.mk_ hb6) ?_
    clear hK' K'
    refine wpPh_nil ?_
    try simp only [opsAt, List.map_cons, List.map_nil, List.getD_cons_zero, List.getD_cons_succ]
    repeat (go_big_quiet_step (fail))
    refine wpQuiet_nil ?_
    refine wpTail_late _ _ _ (by kernel_rfl) ?_
    try simp only [opsAt, List.map_cons, List.map_nil, List.getD_cons_zero, List.getD_cons_succ]
    clear q1 q2
    have hg := Got.of_own (ob := ob) hown hob.lt
    have hbl := hbel.trans (hb6.mono hbel.size)
    replace hob := hob.step hb6
    replace hcb := hcb.step hb6
    replace hv0 := hv0.step hb6
    have hoc := hob.cells
    have hof := hob.frees
    clear hb6 hal hgrow hnb hown
    go_wp2_with fail
    refine NoPanic.normal ?_
    go_wp2_with fail
    go_roundw
    case rel => exact ⟨2, by omega, by go_num, hbl.trans ((Below.refl _ _).setCell (by omega) _), hcb.far hne _, ⟨_, _, hob.set_ 1 _, hv0.set _ _, hg.set _ _⟩, hob0, hne⟩
    case measure => simp [intOf]
  ·have dk : decide ((k : Int) < 2) = false := decide_eq_false (by omega)
   obtain rfl : k = 2 := by omega
   rw [if_neg (by omega)] at hv0 hv1
   obtain ⟨A0, c0, rfl, s0⟩ := hv0.sl
   obtain ⟨A1, c1, rfl, s1⟩ := hv1.sl
   have hops : OpsAt wr wr.heap.size (some ⟨ob, 0, none⟩) 2 exOps := by
    refine ⟨rfl, [.slice A0 1 c0, .slice A1 1 c1], ⟨rfl, fun _ => rfl, fun _ => hob.lt, fun j hj => by rw [show ablk (some (⟨ob, 0, none⟩ : Addr)) = ob from rfl, show aoff (some (⟨ob, 0, none⟩ : Addr)) = 0 from rfl, Nat.zero_add, hob.cell]; simp⟩, fun i l hl => ?_⟩
    match i, hl with
    | 0, hl => cases hl; exact ⟨A0, 1, c0, rfl, s0, rfl⟩
    | 1, hl => cases hl; exact ⟨A1, 1, c1, rfl, s1, rfl⟩
   clear hv0 hv1 s0 s1 htb htc
   go_wp2_with fail
   refine (HN _ 2 2 wr.heap.size exOps wr hops (Nat.le_refl _) (by decide) (by decide) (by decide)).mono ?_
   rintro r w5 ⟨⟨b1, E1, C1, rfl, hL, hEB, hag, hE⟩, hb5⟩
   go_wp2_with fail
   go_ret2
   exact ⟨⟨b1, E1, C1, rfl, hL, by rw [hEB]; exact hbel.size, fun g hg => hag g (by have := hbel.size; omega), hE⟩, hbel.trans (hb5.mono hbel.size)⟩
end Go.Proofs.YtbcnnhlpilmmbaaGreat
