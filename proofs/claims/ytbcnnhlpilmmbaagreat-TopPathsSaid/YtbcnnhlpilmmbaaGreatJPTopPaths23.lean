/- Texts that are wanted for PTopPaths.
   Conditions: none. -/
import Derived.Deep.DeepCutAuto
import Derived.BigQuiet
import Derived.Test.YtbcnnhlpilmmbaaGreatJPTopPaths22
set_option maxRecDepth 100000
set_option maxHeartbeats 6400000
namespace Go.Proofs.YtbcnnhlpilmmbaaGreat
open Go Go.RowKit
def CellBlk (b : Nat) (v : Value) (q : Nat) (cs : Array Value) (w : World) : Prop := w.cell? ⟨b, 0, none⟩ = some v ∧ ∀ i, w.cell? ⟨q, i, none⟩ = cs[i]?
theorem hist_end_ok (b : Nat) (s : HS) (B : Nat) (t k : Nat) (code : Int) (ok : Bool) (val : Int) (w : World) (h : HAt w B b s) (hBw : B ≤ w.heap.size) (ht : t < 8) (hno : s.now t = ((k + 1 : Nat) : Int)) (hsz : s.evs.length ≤ 1000) :
  Calls Tryz.prog 34 #[.pointer (some ⟨b, 0, none⟩), .int .i64 t, .agg #[.int .i64 code, .bool ok, .int .i64 val]] w fun e w' =>
   e = .returned (.int .i64 0) ∧ HAt w' B b (s.doE t code ok val) ∧ Kp B [100, 51, 109] w w' := by
 obtain ⟨iE, hiE, zE, sE, bE⟩ := info_parts info_Event
 obtain ⟨v1, v2, cs, hr⟩ := h.at_
 have hwf := h.wf
 have hbase := h.base
 have hle := hwf.le
 have hbl := hr.lt
 have hkl : k < s.calls.length := by have := hwf.hi t; rw [hno] at this; omega
 have hkb : (decide (0 ≤ (t : Int)) && decide ((t : Int) < 8)) = true := by simp; omega
 have hp : s.pend t = true := by simp only [HS.pend, hkb, Int.toNat_natCast, hno]; simp
 have HK := Lib.hid hkb
 have HP := Lib.hid hp
 have HN := Lib.hid hno
 clear hkb hp hno
 go_enter Tryz.func34, Tryz.ntmps34
 go_wp2_with (first
  | (go_at_call 50; refine (hist_known _ _).mono ?_; rw [HK.out]; rintro e w1 ⟨rfl, rfl⟩)
  | (go_at_call 51; refine (hist_pending b s B _ _ (h.alloc _)).mono ?_; rw [HP.out]; rintro e w1 ⟨rfl, rfl⟩))
 obtain ⟨A1, m1, rfl, -⟩ := own_form hr.o1
 obtain ⟨g, m2, rfl⟩ : ∃ g cap, v2 = .slice (some ⟨g, 0, none⟩) s.calls.length cap := by
  obtain ⟨A2, m2, h2, _, h3, h4⟩ := own_form hr.o2
  cases A2 with
  | none => have := h3 rfl; omega
  | some a => rw [h4 a rfl] at h2; exact ⟨_, _, h2⟩
 have hr0 := hr.alloc (.cells #[.int .i64 code, .bool ok, .int .i64 val] 49)
 have hq0 := Blk.new w 49 #[.int .i64 code, .bool ok, .int .i64 val]
 have k0 : Kp B [100, 51, 109] w (w.alloc (.cells #[.int .i64 code, .bool ok, .int .i64 val] 49)) := (Kp.refl _ _ _).alloc hBw _
 clear hr h
 generalize (w.alloc (.cells #[.int .i64 code, .bool ok, .int .i64 val] 49)) = W at *
 have hWl := hr0.lt
 have f1 := Later.cell (B := W.heap.size) hr0.f1 hr0.lt
 have f2 := Later.cell (B := W.heap.size) (hr0.fn ht) hr0.lt
 rw [HN.out] at f2
 have hi0 : (0 : Int) ≤ (t : Int) := Int.natCast_nonneg _
 have hi1 : (t : Int) < 8 := by omega
 refine wp_region_later W.heap.size (by kernel_rfl) (by kernel_rfl) ?_
 repeat (go_big_quiet_step (fail))
 refine wpQuiet_nil ?_
 intro W1 hq
 obtain ⟨q, hq⟩ := hq
 have hb1 : Below W.heap.size W W1 := by rw [hq]; exact q.below
 clear hq q f1 f2
 have hr1 := hr0.step hb1
 have hq1 := hq0.step hb1
 have k1 := k0.step (by omega) hb1
 clear hr0 hq0 k0 hb1 hWl
 have hgb : b ≠ g := by
  obtain ⟨_, cs', h'⟩ := own_at hr1.o2 g rfl
  exact Blk.ne_ hr1.blk h' (by decide)
 have hgq : w.heap.size ≠ g := by
  obtain ⟨_, cs', h'⟩ := own_at hr1.o2 g rfl
  exact Blk.ne_ hq1 h' (by decide)
 have hgB : B ≤ g ∧ ∃ cs', Blk W1 g 109 cs' := own_at hr1.o2 g rfl
 have hS : (CellBlk b (.slice A1 s.evs.length m1) w.heap.size #[.int .i64 code, .bool ok, .int .i64 val]) W1.drew := ⟨hr1.f0, hq1.cells⟩
 have hne := Such.ne_ hS
 have f1 : ∀ q : Such (CellBlk b (.slice A1 s.evs.length m1) w.heap.size #[.int .i64 code, .bool ok, .int .i64 val]), q.val.cell? ⟨b, 0, none⟩ = some (.slice A1 s.evs.length m1) := fun q => q.ok.1
 have f2 : ∀ (q : Such (CellBlk b (.slice A1 s.evs.length m1) w.heap.size #[.int .i64 code, .bool ok, .int .i64 val])) (i : Nat), q.val.cell? ⟨w.heap.size, i, none⟩ = (#[.int .i64 code, .bool ok, .int .i64 val] : Array Value)[i]? := fun q => q.ok.2
 go_wp2_with fail
 refine wp_region_lead (fun w' => ∃ q : Such (CellBlk b (.slice A1 s.evs.length m1) w.heap.size #[.int .i64 code, .bool ok, .int .i64 val]), w' = q.val) 12 [0, 1, 2, 3, 4, 5, 6, 7, 8, 9, 10] [11, 12, 13, 14] (by kernel_rfl) (by kernel_rfl) (Such.mk_ hS) ?_
 simp only [opsAt, List.map_cons, List.map_nil, List.getD_cons_zero, List.getD_cons_succ]
 repeat (go_big_quiet_step (fail))
 refine wpQuiet_nil ?_
 refine wpTail_early rfl (fun K hK => ?_)
 obtain ⟨c, hc⟩ : ∃ c, s.calls[k]? = some c := ⟨_, List.getElem?_eq_getElem hkl⟩
 have hcell : ∀ j, j < 9 → W1.cell? ⟨g, k * 9 + j, none⟩ = (HC.cells c)[j]? := fun j hj => by
  have h1 := hr1.o2.cellAt (k * 9 + j) (by omega)
  rw [h1, flat_at HC.cells 9 HC.cells_len _ _ _ _ hc hj]
 have c1 := hcell 1 (by omega)
 have c6 := hcell 6 (by omega)
 have c7 := hcell 7 (by omega)
 have c8 := hcell 8 (by omega)
 simp only [HC.cells, List.getElem?_cons_succ, List.getElem?_cons_zero] at c1 c6 c7 c8
 have hfz : ∀ j, W1.frozen? ⟨g, j, none⟩ = false := by
  obtain ⟨_, cs', h'⟩ := hgB
  exact h'.frozen
 go_simp
 refine hK _ _ (Such.mk_ ⟨?_, fun i => ?_⟩) ?_
 ·exact (World.cell?_setCell_other _ _ _ _ (by simp)).trans hr1.f0
 ·exact (World.cell?_setCell_other _ _ _ _ (by simp)).trans (hq1.cell i)
 clear hK K
 refine wpTail_late _ _ _ (by kernel_rfl) ?_
 simp only [opsAt, List.map_cons, List.map_nil, List.getD_cons_zero, List.getD_cons_succ]
 clear f1 f2 hne hS hcell
 go_wp2_with fail
 obtain ⟨cs', hgb'⟩ := hgB.2
 have hr2 := (hr1.putCall (by decide) (by decide) hkl s.evs.length code ok val).drew
 have k2 := ((((k1.setB hgb' hgB.1 (by decide) (k * 9 + 1) (.int .i64 s.evs.length)).setB (hgb'.set_ _ _) hgB.1 (by decide) (k * 9 + 6) (.int .i64 code)).setB ((hgb'.set_ _ _).set_ _ _) hgB.1 (by decide) (k * 9 + 6 + 1) (.bool ok)).setB (((hgb'.set_ _ _).set_ _ _).set_ _ _) hgB.1 (by decide) (k * 9 + 6 + 2) (.int .i64 val)).drew
 have hq2 := ((((hq1.far (p := ⟨g, k * 9 + 1, none⟩) hgq (.int .i64 s.evs.length)).far (p := ⟨g, k * 9 + 6, none⟩) hgq (.int .i64 code)).far (p := ⟨g, k * 9 + 6 + 1, none⟩) hgq (.bool ok)).far (p := ⟨g, k * 9 + 6 + 2, none⟩) hgq (.int .i64 val)).drew
 clear c1 c6 c7 c8 hfz hr1 hq1 k1 hgb' cs' hc
 refine NoPanic.normal ?_
 generalize (World.drew ((((W1.setCell ⟨g, k * 9 + 1, none⟩ (.int .i64 s.evs.length)).setCell ⟨g, k * 9 + 6, none⟩ (.int .i64 code)).setCell ⟨g, k * 9 + 6 + 1, none⟩ (.bool ok)).setCell ⟨g, k * 9 + 6 + 2, none⟩ (.int .i64 val))) = W2 at *
 clear hgB hgb hgq
 go_wp2_with fail
 have hW2 := hr2.lt
 have f0 := Later.cell (B := W2.heap.size) hr2.f0 hr2.lt
 have f2 := Later.cells hq2 hq2.lt
 refine wp_region_lead (fun w' => ∃ q : Later W2.heap.size W2, w' = q.val) 9 [0, 1, 2, 3, 4, 5, 6, 7] [8, 9, 10, 11, 12] (by kernel_rfl) (by kernel_rfl) (Later.mk_ (Below.refl _ _).drew) ?_
 simp only [opsAt, List.map_cons, List.map_nil, List.getD_cons_zero, List.getD_cons_succ]
 repeat (go_big_quiet_step (fail))
 refine wpQuiet_nil ?_
 refine wpTail_early rfl (fun K hK => ?_)
 go_simp
 refine hK _ _ (Later.mk_ ((Below.refl _ _).alloc (Nat.le_refl _) _).drew) ?_
 clear hK K
 refine wpTail_late _ _ _ (by kernel_rfl) ?_
 simp only [opsAt, List.map_cons, List.map_nil, List.getD_cons_zero, List.getD_cons_succ]
 refine wpList_append_lies _ rfl _ _ _ rfl B 51 iE _ 7 56 Tryz.underlying41 hiE zE sE bE rfl (by omega) (.slice A1 s.evs.length m1) s.evs.length (s.evs.flatMap Ev.cells) rfl ((hr2.o1.alloc _).drew) ⟨W2.heap.size, 0, none⟩ 1 1 (Ev.cells (evE t code ok val)) rfl rfl (World.news_of_block (heap_alloc_new W2 _)) (Ev.cells_one _) (by omega) (by unfold maxLen; omega) (by omega) (by simp; omega) (W2.heap.size + 1) (by simp) ?_
 intro g2 cap2 w3 hown1 hgrow hat hlt
 have fb := Blk.grown (Blk.drew (hr2.blk.alloc (.cells #[.int .i64 t, .bool true, .int .i64 0, .int .i64 0, .int .i64 code, .bool ok, .int .i64 val] 51))) hgrow (own_ne hr2.o1 hr2.blk (by decide))
 have fz := fb.frozen 0
 have fc := (fb.cell 0).trans hr2.c0
 have k3 : Kp B [100, 51, 109] w w3 := ((k2.alloc (by omega) _).drew).own ((hr2.o1.alloc _).drew) (Nat.le_refl _) (by simp; omega) (by decide) hgrow
 have hr3 := ((hr2.alloc (.cells #[.int .i64 t, .bool true, .int .i64 0, .int .i64 0, .int .i64 code, .bool ok, .int .i64 val] 51)).drew).putEvs (by decide) (by decide) (by decide) (evs' := s.evs ++ [evE t code ok val]) (n' := s.evs.length + 1) (by simp) (by simpa using hown1) hgrow
 have k4 := k3.setB fb hbase (by decide) 0 (.slice (some ⟨g2, 0, none⟩) (s.evs.length + 1) cap2)
 clear f0 f2 hown1 hgrow hat hr2 hq2 k2 k3 fb
 go_wp2_with fail
 refine NoPanic.normal ?_
 generalize (w3.setCell ⟨b, 0, none⟩ (.slice (some ⟨g2, 0, none⟩) (s.evs.length + 1) cap2)) = W3 at *
 clear fz fc hlt
 have fz := hr3.blk.frozen (2 + t)
 have fc := hr3.fn ht
 have hr4 := hr3.putNow (by decide) (by decide) ht 0
 have k5 := k4.setB hr3.blk hbase (by decide) (2 + t) (.int .i64 0)
 clear hr3 k4
 go_wp2_with fail
 go_ret
 exact ⟨rfl, ⟨HS.wf_doE hwf _ _ _ _, hbase, _, _, _, by simpa only [HS.doE, HN.out, show ((k + 1 : Nat) : Int) - 1 = (k : Int) from by omega, Int.toNat_natCast] using hr4⟩, k5⟩
theorem hist_end (b : Nat) (s : HS) (B : Nat) (t code : Int) (ok : Bool) (val : Int) (w : World) (h : HAt w B b s) (hBw : B ≤ w.heap.size) (hsz : s.evs.length ≤ 1000) :
  Calls Tryz.prog 34 #[.pointer (some ⟨b, 0, none⟩), .int .i64 t, .agg #[.int .i64 code, .bool ok, .int .i64 val]] w fun e w' =>
   e = .returned (.int .i64 (s.errE t)) ∧ HAt w' B b (s.end_ t code ok val) ∧ Kp B [100, 51, 109] w w' := by
 by_cases hk : 0 ≤ t ∧ t < 8
 ·obtain ⟨t, rfl⟩ := Int.eq_ofNat_of_zero_le hk.1
  have ht : t < 8 := by omega
  have hk' : ¬ ((t : Int) < 0 ∨ 8 ≤ (t : Int)) := by omega
  by_cases hp : 0 < s.now t
  ·have he : s.errE t = 0 := by simp only [HS.errE, if_neg hk', Int.toNat_natCast, if_pos hp]
   have hs : s.end_ t code ok val = s.doE t code ok val := by simp only [HS.end_, he, Int.toNat_natCast]; rfl
   rw [he, hs]
   exact hist_end_ok b s B t (s.now t - 1).toNat code ok val w h hBw ht (by omega) hsz
  ·have he : s.errE t = 5 := by simp only [HS.errE, if_neg hk', Int.toNat_natCast, if_neg hp]
   have hs : s.end_ t code ok val = s := by simp only [HS.end_, he]; rfl
   rw [he, hs]
   have hkb : (decide (0 ≤ (t : Int)) && decide ((t : Int) < 8)) = true := by simp; omega
   have hpb : s.pend t = false := by simp only [HS.pend, hkb, Int.toNat_natCast]; simpa using hp
   have HK := Lib.hid hkb
   have HP := Lib.hid hpb
   have hb2 : Below w.heap.size w (w.alloc (.cells #[.int .i64 code, .bool ok, .int .i64 val] 49)) := (Below.refl _ _).alloc (Nat.le_refl _) _
   clear hkb hpb he hs hk' hk
   go_enter Tryz.func34, Tryz.ntmps34
   go_wp2_with (first
    | (go_at_call 50; refine (hist_known _ _).mono ?_; rw [HK.out]; rintro e w1 ⟨rfl, rfl⟩)
    | (go_at_call 51; refine (hist_pending b s B _ _ (h.alloc _)).mono ?_; rw [HP.out]; rintro e w1 ⟨rfl, rfl⟩))
   go_ret
   exact ⟨rfl, h.step hb2, (Kp.refl _ _ _).step hBw hb2⟩
 ·have hk' : t < 0 ∨ 8 ≤ t := by omega
  have he : s.errE t = 2 := by simp only [HS.errE, if_pos hk']
  have hs : s.end_ t code ok val = s := by simp only [HS.end_, he]; rfl
  rw [he, hs]
  have hkb : (decide (0 ≤ t) && decide (t < 8)) = false := by simp; omega
  have HK := Lib.hid hkb
  have hb2 : Below w.heap.size w (w.alloc (.cells #[.int .i64 code, .bool ok, .int .i64 val] 49)) := (Below.refl _ _).alloc (Nat.le_refl _) _
  clear hkb he hs hk' hk
  go_enter Tryz.func34, Tryz.ntmps34
  go_wp2_with (go_at_call 50; refine (hist_known _ _).mono ?_; rw [HK.out]; rintro e w1 ⟨rfl, rfl⟩)
  go_ret
  exact ⟨rfl, h.step hb2, (Kp.refl _ _ _).step hBw hb2⟩
theorem flat_one {α : Type} (f : α → List Value) (hf : ∀ x, ∀ u ∈ f x, u.oneCell' = true) (l : List α) : ∀ u ∈ l.flatMap f, u.oneCell' = true := by
 intro u hu
 obtain ⟨x, _, hx⟩ := List.mem_flatMap.1 hu
 exact hf x u hx
theorem clone_Call (A : Option Addr) (n c B : Nat) (xs : List Value) (w : World) (hr : Sl w B 9 A n xs) (hB : B ≤ w.heap.size) (h1 : ∀ u ∈ xs, u.oneCell' = true) (hn : n ≤ 1000) (hnil : A = none → n = 0 ∧ c = 0) :
  Calls Tryz.prog 54 #[.slice A n c] w fun e w' => ∃ v, e = .returned v ∧ w'.ownsRow w.heap.size 109 9 v n xs ∧ Below w.heap.size w w' := by
 obtain ⟨i0, hi, hz0, hz1, hz2⟩ := info_parts info_Call
 cases A with
 | none =>
  obtain ⟨rfl, rfl⟩ := hnil rfl
  have hx : xs = [] := List.eq_nil_of_length_eq_zero (by simpa using hr.len)
  subst hx
  have hq := fun w : World => Lib.run_eql_slice_nil (P := Tryz.prog) w 97 109 none 0 0 0 0 Tryz.underlying97
  go_enter Tryz.func54, Tryz.ntmps54
  go_wp2
  go_ret
  exact ⟨_, rfl, World.ownsRow_nil _ _ _ _, Below.refl _ _⟩
 | some a =>
  have hq := fun w : World => Lib.run_eql_slice_nil (P := Tryz.prog) w 97 109 (some a) n c 0 0 Tryz.underlying97
  have ho := own_zero w 109 9 (Nat.le_refl _) rfl
  have hs : Sl (w.alloc (.cells #[] 109)) B 9 (some a) n xs := hr.step hB ((Below.refl _ _).alloc (Nat.le_refl _) _)
  go_enter Tryz.func54, Tryz.ntmps54
  go_wp2_with (at_builtin; refine wpList_append_sl _ rfl _ _ _ rfl w.heap.size 109 i0 _ 9 72 Tryz.underlying97 hi hz0 hz1 hz2 rfl (by omega) (.slice (some ⟨w.heap.size, 0, none⟩) 0 0) 0 [] rfl ho B (some a) n c xs rfl hs h1 (by unfold maxLen; omega) (by omega) (by simp) ?_; intro v1 w1 hown1 hg1 hat1)
  go_ret
  exact ⟨_, rfl, by simpa using hown1, ((Below.refl _ _).alloc (Nat.le_refl _) _).grown hg1 (by simp) (by simp [Value.ownBlock])⟩
theorem clone_Event (A : Option Addr) (n c B : Nat) (xs : List Value) (w : World) (hr : Sl w B 7 A n xs) (hB : B ≤ w.heap.size) (h1 : ∀ u ∈ xs, u.oneCell' = true) (hn : n ≤ 1000) (hnil : A = none → n = 0 ∧ c = 0) :
  Calls Tryz.prog 36 #[.slice A n c] w fun e w' => ∃ v, e = .returned v ∧ w'.ownsRow w.heap.size 51 7 v n xs ∧ Below w.heap.size w w' := by
 obtain ⟨i0, hi, hz0, hz1, hz2⟩ := info_parts info_Event
 cases A with
 | none =>
  obtain ⟨rfl, rfl⟩ := hnil rfl
  have hx : xs = [] := List.eq_nil_of_length_eq_zero (by simpa using hr.len)
  subst hx
  have hq := fun w : World => Lib.run_eql_slice_nil (P := Tryz.prog) w 41 51 none 0 0 0 0 Tryz.underlying41
  go_enter Tryz.func36, Tryz.ntmps36
  go_wp2
  go_ret
  exact ⟨_, rfl, World.ownsRow_nil _ _ _ _, Below.refl _ _⟩
 | some a =>
  have hq := fun w : World => Lib.run_eql_slice_nil (P := Tryz.prog) w 41 51 (some a) n c 0 0 Tryz.underlying41
  have ho := own_zero w 51 7 (Nat.le_refl _) rfl
  have hs : Sl (w.alloc (.cells #[] 51)) B 7 (some a) n xs := hr.step hB ((Below.refl _ _).alloc (Nat.le_refl _) _)
  go_enter Tryz.func36, Tryz.ntmps36
  go_wp2_with (at_builtin; refine wpList_append_sl _ rfl _ _ _ rfl w.heap.size 51 i0 _ 7 56 Tryz.underlying41 hi hz0 hz1 hz2 rfl (by omega) (.slice (some ⟨w.heap.size, 0, none⟩) 0 0) 0 [] rfl ho B (some a) n c xs rfl hs h1 (by unfold maxLen; omega) (by omega) (by simp) ?_; intro v1 w1 hown1 hg1 hat1)
  go_ret
  exact ⟨_, rfl, by simpa using hown1, ((Below.refl _ _).alloc (Nat.le_refl _) _).grown hg1 (by simp) (by simp [Value.ownBlock])⟩
theorem hist_events (b : Nat) (s : HS) (B : Nat) (w : World) (h : HAt w B b s) (hsz : s.evs.length ≤ 1000) :
  Calls Tryz.prog 16 #[.pointer (some ⟨b, 0, none⟩)] w fun e w' => ∃ v, e = .returned v ∧ w'.ownsRow w.heap.size 51 7 v s.evs.length (s.evs.flatMap Ev.cells) ∧ Below w.heap.size w w' := by
 obtain ⟨v1, v2, cs, hr⟩ := h.at_
 have hle := h.wf.le
 obtain ⟨A, c, rfl, -, hnil, -⟩ := own_form hr.o1
 have hcell := hr.f0
 have hsl := Sl.of_own hr.o1
 have h1 := flat_one Ev.cells Ev.cells_one s.evs
 have HN := Lib.hid hnil
 clear hr h hnil
 go_enter Tryz.func16, Tryz.ntmps16
 go_wp2_with (go_at_call 36; refine (clone_Event _ _ _ _ _ _ hsl (Nat.le_refl _) h1 (by omega) HN.out).mono ?_; rintro e w1 ⟨v, rfl, ho, hb⟩)
 go_ret
 exact ⟨_, rfl, ho, hb⟩
theorem hist_calls (b : Nat) (s : HS) (B : Nat) (w : World) (h : HAt w B b s) (hsz : s.evs.length ≤ 1000) :
  Calls Tryz.prog 40 #[.pointer (some ⟨b, 0, none⟩)] w fun e w' => ∃ v, e = .returned v ∧ w'.ownsRow w.heap.size 109 9 v s.calls.length (s.calls.flatMap HC.cells) ∧ Below w.heap.size w w' := by
 obtain ⟨v1, v2, cs, hr⟩ := h.at_
 have hle := h.wf.le
 obtain ⟨A, c, rfl, -, hnil, -⟩ := own_form hr.o2
 have hcell := hr.f1
 have hsl := Sl.of_own hr.o2
 have h1 := flat_one HC.cells HC.cells_one s.calls
 have HN := Lib.hid hnil
 clear hr h hnil
 go_enter Tryz.func40, Tryz.ntmps40
 go_wp2_with (go_at_call 54; refine (clone_Call _ _ _ _ _ _ hsl (Nat.le_refl _) h1 (by omega) HN.out).mono ?_; rintro e w1 ⟨v, rfl, ho, hb⟩)
 go_ret
 exact ⟨_, rfl, ho, hb⟩
def HS.step (s : HS) (e : Ev) : HS := if e.ends then s.end_ e.th e.code e.ok e.val else s.begin_ e.th e.kind e.key
theorem HS.len_step (s : HS) (e : Ev) : (s.step e).evs.length ≤ s.evs.length + 1 := by
 unfold HS.step HS.end_ HS.begin_
 split <;> split <;> simp [HS.doE, HS.doB]
theorem hist_copy (b : Nat) (s : HS) (BH : Nat) (w : World) (h : HAt w BH b s) (hn : s.evs.length ≤ 1000) :
  Calls Tryz.prog 35 #[.pointer (some ⟨b, 0, none⟩)] w fun r w' => ∃ b', r = .returned (.pointer (some ⟨b', 0, none⟩)) ∧ HAt w' w.heap.size b' s ∧ Below w.heap.size w w' := by
 have hwf := h.wf
 obtain ⟨v1, v2, cs, hr⟩ := h.at_
 have hbl := hr.lt
 have q0 := Later.cell (B := w.heap.size) (w := w) (hr.fn (t := 0) (by omega)) hbl
 have q1 := Later.cell (B := w.heap.size) (w := w) (hr.fn (t := 1) (by omega)) hbl
 have q2 := Later.cell (B := w.heap.size) (w := w) (hr.fn (t := 2) (by omega)) hbl
 have q3 := Later.cell (B := w.heap.size) (w := w) (hr.fn (t := 3) (by omega)) hbl
 have q4 := Later.cell (B := w.heap.size) (w := w) (hr.fn (t := 4) (by omega)) hbl
 have q5 := Later.cell (B := w.heap.size) (w := w) (hr.fn (t := 5) (by omega)) hbl
 have q6 := Later.cell (B := w.heap.size) (w := w) (hr.fn (t := 6) (by omega)) hbl
 have q7 := Later.cell (B := w.heap.size) (w := w) (hr.fn (t := 7) (by omega)) hbl
 clear hr
 go_enter Tryz.func35, Tryz.ntmps35
 go_upto_region 1 with (fail)
 refine wp_region_lead (fun w' => ∃ q : Later w.heap.size w, w' = q.val) 8 [0, 2, 4, 5, 6, 7] [1, 3, 8, 9, 10] (by kernel_rfl) (by kernel_rfl) (Later.mk_ (Below.refl _ _).drew) ?_
 simp only [opsAt, List.map_cons, List.map_nil, List.getD_cons_zero, List.getD_cons_succ]
 repeat (go_big_quiet_step (fail))
 refine wpQuiet_nil ?_
 clear q0 q1 q2 q3 q4 q5 q6 q7
 refine wpTail_early rfl (fun K hK => ?_)
 go_simp
 have h0 : HAt w.drew BH b s := h.drew
 have hb0 : Below w.heap.size w w.drew := (Below.refl _ _).drew
 have hs0 : w.drew.heap.size = w.heap.size := rfl
 generalize w.drew = W0 at *
 refine (hist_events b s BH W0 h0 hn).mono ?_
 rintro e w1 ⟨u1, rfl, ho1, hb1⟩
 rw [hs0] at ho1 hb1
 obtain ⟨X1, m1, rfl, -, -, -⟩ := own_form ho1
 refine hK _ _ (Later.mk_ (hb0.trans hb1)) ?_
 clear hK K
 refine wpTail_early rfl (fun K hK => ?_)
 go_simp
 have h1 := h0.step (hs0 ▸ hb1)
 have hs1 := (hb0.trans hb1).size
 refine (hist_calls b s BH w1 h1 hn).mono ?_
 rintro e w2 ⟨u2, rfl, ho2, hb2⟩
 obtain ⟨X2, m2, rfl, -, -, -⟩ := own_form ho2
 refine hK _ _ (Later.mk_ ((hb0.trans hb1).trans (hb2.mono hs1))) ?_
 clear hK K
 have hs2 := hb2.size
 have ho12 := own_step ho1 hb2
 refine wpTail_late _ _ _ (by kernel_rfl) ?_
 simp only [opsAt, List.map_cons, List.map_nil, List.getD_cons_zero, List.getD_cons_succ]
 go_wp2_with fail
 refine NoPanic.normal ?_
 go_wp2_with fail
 go_ret
 have hB := (hb0.trans hb1).trans (hb2.mono hs1)
 refine ⟨w2.heap.size, rfl, ⟨hwf, by omega, _, _, _, Blk.new _ _ _, rfl, rfl, rfl, ?_, ho12.alloc _, (own_mono ho2 hs1).alloc _⟩, hB.alloc (by omega) _⟩
 intro t ht
 match t, ht with
 | 0, _ => rfl
 | 1, _ => rfl
 | 2, _ => rfl
 | 3, _ => rfl
 | 4, _ => rfl
 | 5, _ => rfl
 | 6, _ => rfl
 | 7, _ => rfl
structure WkS where
 st : StS
 tasks : List Tk3
 ended : Nat
 now : Option DoS
def WkS.left (x : WkS) : Int := (x.tasks.length : Int) - (x.ended : Int)
def Tk3.cells (t : Tk3) : List Value := [.int .i64 t.sh, .int .i64 t.kind, .int .i64 t.key]
theorem Tk3.cells_len (t : Tk3) : t.cells.length = 3 := rfl
structure WkC (w : World) (C : Nat → Nat) (k q sg b : Nat) (A : Option Addr) (n cap : Nat) (pn tv lv : Value) (x : WkS) : Prop where
 blk : SB w C k b 91 #[.pointer (some ⟨sg, 0, none⟩), .slice A n cap, .int .i64 (x.ended : Int), pn, tv, lv]
 len : x.tasks.length = n
 small : n ≤ 1000
 le : x.ended ≤ n
 row : Sr w C k 85 3 A n (x.tasks.flatMap Tk3.cells)
 took : ∃ n1 xs, Row w C k 3 1 tv n1 (ivs xs) ∧ xs.length = n1 ∧ n1 = x.ended + (if x.now.isSome then 1 else 0)
 slow : ∃ n2 ys, Row w C q 3 1 lv n2 (ivs ys) ∧ ys.length = n2 ∧ n2 ≤ x.ended
def TWc : List (Option TypeId) := [some 91, some 85, some 3]
theorem WkC.mv {w w' : World} {C C' : Nat → Nat} {K : Nat → Prop} {T : List (Option TypeId)} {k q sg b : Nat} {A : Option Addr} {n cap : Nat} {pn tv lv : Value} {x : WkS} (h : WkC w C k q sg b A n cap pn tv lv x) (f : Fr C K T w w') (a : Agr w.heap.size C C') (hk : (¬ K k ∧ ¬ K q) ∨ Away TWc T) : WkC w' C' k q sg b A n cap pn tv lv x := by
 obtain ⟨n1, xs, h1, h2, h3⟩ := h.took
 obtain ⟨n2, ys, g1, g2, g3⟩ := h.slow
 exact ⟨h.blk.mv f a (hk.imp (·.1) (fun h => h _ (by decide))), h.len, h.small, h.le, h.row.mv f a (hk.imp (·.1) (fun h => h _ (by decide))), ⟨n1, xs, h1.mv f a (hk.imp (·.1) (fun h => h _ (by decide))), h2, h3⟩, ⟨n2, ys, g1.mv f a (hk.imp (·.2) (fun h => h _ (by decide))), g2, g3⟩⟩
structure WkAt (w : World) (C : Nat → Nat) (c s k q sg b : Nat) (L : Ly) (me : Int) (x : WkS) : Prop where
 st : StAt w C s sg L me x.st
 ex : ∃ A n cap pn tv lv, WkC w C k q sg b A n cap pn tv lv x ∧ OptAt x.now pn (fun bd d => DoAt w C c s sg bd L me d)
def TWk : List (Option TypeId) := TWc ++ some 137 :: TDo
theorem WkAt.mv {w w' : World} {C C' : Nat → Nat} {K : Nat → Prop} {T : List (Option TypeId)} {c s k q sg b : Nat} {L : Ly} {me : Int} {x : WkS} (h : WkAt w C c s k q sg b L me x) (f : Fr C K T w w') (a : Agr w.heap.size C C') (hk : (¬ K c ∧ ¬ K s ∧ ¬ K k ∧ ¬ K q) ∨ Away TWk T) : WkAt w' C' c s k q sg b L me x := by
 obtain ⟨A, n, cap, pn, tv, lv, h1, h2⟩ := h.ex
 exact ⟨h.st.mv f a (hk.imp (·.2.1) (fun h x hx => h x (by revert x; decide))), A, n, cap, pn, tv, lv, h1.mv f a (hk.imp (·.2.2) (fun h x hx => h x (by revert x; decide))), h2.imp fun bd d hd => hd.mv f a (hk.imp (fun e => ⟨e.1, e.2.1⟩) (fun h x hx => h x (by revert x; decide)))⟩
theorem WkAt.fr {w w' : World} {C : Nat → Nat} {K : Nat → Prop} {T : List (Option TypeId)} {c s ck q sg b : Nat} {L : Ly} {me : Int} {x : WkS} (h : WkAt w C c s ck q sg b L me x) (k : Fr C K T w w') (hk : (¬ K c ∧ ¬ K s ∧ ¬ K ck ∧ ¬ K q) ∨ Away TWk T) : WkAt w' C c s ck q sg b L me x := h.mv k (Agr.refl _ _) hk
instance {w : World} {C : Nat → Nat} {c s ck q sg b : Nat} {L : Ly} {me : Int} {x : WkS} : Mv (WkAt w C c s ck q sg b L me x) w C TWk (fun w' C' => WkAt w' C' c s ck q sg b L me x) := ⟨fun h k a hk => h.mv k a (.inr hk)⟩
structure HsAt (w : World) (B b : Nat) (s : HS) : Prop where
 at_ : HAt w B b s
theorem HsAt.le {w : World} {B b : Nat} {s : HS} (h : HsAt w B b s) : B ≤ w.heap.size := Nat.le_trans h.at_.base (Nat.le_of_lt h.at_.lt)
def THs : List (Option TypeId) := [some 100, some 51, some 109]
theorem HsAt.mv {w w' : World} {C C' : Nat → Nat} {K : Nat → Prop} {T : List (Option TypeId)} {B b : Nat} {s : HS} (h : HsAt w B b s) (f : Fr C K T w w') (_ : Agr w.heap.size C C') (hk : False ∨ Away THs T) : HsAt w' B b s := by
 have hk := hk.resolve_left id
 obtain ⟨h1, h2, v1, v2, cs, h3⟩ := h.at_
 have key : ∀ (e : TypeId) (size n : Nat) (v : Value) (xs : List Value), some e ∉ T → w.ownsRow B e size v n xs → w'.ownsRow B e size v n xs := fun e size n v xs he ho => own_fr ho f (.inr he)
 exact ⟨h1, h2, v1, v2, cs, h3.blk.fr f (.inr (hk _ (by decide))), h3.size, h3.c0, h3.c1, h3.cn, key _ _ _ _ _ (hk _ (by decide)) h3.o1, key _ _ _ _ _ (hk _ (by decide)) h3.o2⟩
theorem HsAt.fr {w w' : World} {C : Nat → Nat} {K : Nat → Prop} {T : List (Option TypeId)} {B b : Nat} {s : HS} (h : HsAt w B b s) (f : Fr C K T w w') (hk : False ∨ Away THs T) : HsAt w' B b s := h.mv f (Agr.refl _ _) hk
theorem HsAt.step {w w' : World} {B b : Nat} {s : HS} (h : HsAt w B b s) (k : Below w.heap.size w w') : HsAt w' B b s := ⟨h.at_.step k⟩
def HsC (w : World) (_ : Nat → Nat) (B b : Nat) (s : HS) : Prop := HsAt w B b s
theorem HsC.mk_ (C : Nat → Nat) {w : World} {B b : Nat} {s : HS} (h : HsAt w B b s) : HsC w C B b s := h
theorem HsC.out {C : Nat → Nat} {w : World} {B b : Nat} {s : HS} (h : HsC w C B b s) : HsAt w B b s := h
theorem HsC.fr {w w' : World} {C : Nat → Nat} {K : Nat → Prop} {T : List (Option TypeId)} {B b : Nat} {s : HS} (h : HsC w C B b s) (f : Fr C K T w w') (hk : False ∨ Away THs T) : HsC w' C B b s := h.out.fr f hk
instance {w : World} {C : Nat → Nat} {B b : Nat} {s : HS} : Mv (HsC w C B b s) w C THs (fun w' C' => HsC w' C' B b s) := ⟨fun h k a hk => h.out.mv k a (.inr hk)⟩
theorem Fr.of_hist {w w' : World} {B : Nat} (h : Kp B [100, 51, 109] w w') (C : Nat → Nat) : Fr C (fun _ => True) THs w w' :=
 ⟨h.below.os, h.below.tape, h.below.output, h.below.size, fun g o ho hk => h.ty g o ho fun cs t fz e ht => hk.elim (fun h => h trivial) (fun h => h (by subst e; simp only [tyO]; revert ht; simp [THs]))⟩
structure FrE (B : Nat) (C : Nat → Nat) (w w' : World) : Prop where
 os : w'.os = w.os
 tape : w'.tape = w.tape
 output : w'.output = w.output
 size : w.heap.size ≤ w'.heap.size
 keep : ∀ g o, w.heap[g]? = some o → C g = 0 → tyO o ∉ THs ∨ g < B → w'.heap[g]? = some o
theorem FrE.refl (B : Nat) (C : Nat → Nat) (w : World) : FrE B C w w := ⟨rfl, rfl, rfl, Nat.le_refl _, fun _ _ h _ _ => h⟩
def KE : Nat → Prop := fun x => x ≠ 0
theorem FrE.of_fr {B : Nat} {C : Nat → Nat} {L : List (Option TypeId)} {w w' : World} (k : Fr C KE L w w') : FrE B C w w' := ⟨k.os, k.tape, k.output, k.size, fun g o ho hc _ => k.keep g o ho (.inl (fun h => h hc))⟩
theorem FrE.of_hist {B : Nat} (C : Nat → Nat) {w w' : World} (k : Kp B [100, 51, 109] w w') : FrE B C w w' := ⟨k.below.os, k.below.tape, k.below.output, k.below.size, fun g o ho _ ht => ht.elim (fun ht => (Fr.of_hist k C).keep g o ho (.inr ht)) (fun hl => (k.below.block g hl).trans ho)⟩
theorem FrE.comp {B : Nat} {C C' : Nat → Nat} {a w w' : World} (h : FrE B C a w) (k : FrE B C' w w') (hC : Agr a.heap.size C C') : FrE B C a w' :=
 ⟨k.os.trans h.os, k.tape.trans h.tape, k.output.trans h.output, Nat.le_trans h.size k.size, fun g o ho hc ht => k.keep g o (h.keep g o ho hc ht) ((hC g (lt_size ho)).trans hc) ht⟩
theorem FrE.trans {B : Nat} {C C' : Nat → Nat} {L : List (Option TypeId)} {a w w' : World} (h : FrE B C a w) (k : Fr C' KE L w w') (hC : Agr a.heap.size C C') : FrE B C a w' := h.comp (.of_fr k) hC
theorem FrE.hist {B : Nat} {C C' : Nat → Nat} {a w w' : World} (h : FrE B C a w) (k : Kp B [100, 51, 109] w w') (hC : Agr a.heap.size C C') : FrE B C a w' := h.comp (.of_hist C' k) hC
theorem FrE.step {B : Nat} {C : Nat → Nat} {a w w' : World} (h : FrE B C a w) (k : Below w.heap.size w w') : FrE B C a w' := h.trans (Fr.of_below k C KE []) (Agr.refl _ _)
theorem SB.fe {w w' : World} {B : Nat} {C C' : Nat → Nat} {b : Nat} {t : TypeId} {cs : Array Value} (h : SB w C 0 b t cs) (f : FrE B C w w') (a : Agr w.heap.size C C') (ht : some t ∉ THs) : SB w' C' 0 b t cs := SB.mk (f.keep _ _ h.blk h.col (.inl ht)) ((a b h.lt).trans h.col)
section
variable {B0 : Nat} {w w' w0 : World} {C C0 : Nat → Nat} {G B : Prop} {T : List (Option TypeId)} {G' : World → (Nat → Nat) → Prop → Prop}
theorem mvbE [Gm G w C B T G'] (hb : Below w.heap.size w w') (k : FrE B0 C0 w0 w' → G' w' C B) : FrE B0 C0 w0 w → G :=
 fun fr => Gm.mv (G := G) (C := C) (fun s => s (Fr.of_below hb C (fun _ => False) []) (Agr.refl _ _) (fun _ _ h => by cases h) (k (fr.step hb)))
theorem drwE [Gm G w C B T G'] (k : FrE B0 C0 w0 w.drew → G' w.drew C B) : FrE B0 C0 w0 w → G := mvbE (Below.refl _ _).drew k
theorem bx1E [Gm G w C B T G'] (t : TypeId) (cs : Array Value) (k : ∀ w', w.alloc (.cells cs t) = w' → w0.heap.size ≤ w.heap.size → FrE B0 C0 w0 w' → SB w' C (C w.heap.size) w.heap.size t cs → G' w' C B) : FrE B0 C0 w0 w → G :=
 fun fr => Gm.mv (G := G) (C := C) (fun s => s (Fr.of_below ((Below.refl _ _).alloc (Nat.le_refl _) (.cells cs t)) C (fun _ => False) []) (Agr.refl _ _) (fun _ _ h => by cases h) (k _ rfl fr.size (fr.step ((Below.refl _ _).alloc (Nat.le_refl _) _)) (SB.new w C rfl t cs rfl)))
theorem purE {P : Program} {f : FuncId} {args : Array Value} {R : Ending → Prop} {Q : Ending → World → Prop} (h : Calls P f args w (fun e w' => R e ∧ Below w.heap.size w w')) [Gm G w C (Calls P f args w Q) T G'] (k : ∀ e w', R e → FrE B0 C0 w0 w' → G' w' C (Q e w')) : FrE B0 C0 w0 w → G :=
 fun fr => Gm.mv (G := G) (C := C) (fun s => h.mono fun e w' hh => s (Fr.of_below hh.2 C (fun _ => False) []) (Agr.refl _ _) (fun _ _ h => by cases h) (k e w' hh.1 (fr.step hh.2)))
end
def cM (u : Nat) : Nat := 4 + 4 * u
def cS (u : Nat) : Nat := 5 + 4 * u
def cK (u : Nat) : Nat := 6 + 4 * u
def cQ (u : Nat) : Nat := 7 + 4 * u
structure EgL where
 M : ML
 hb : Nat
 wb : Nat → Nat
 sg : Nat → Nat
 B : Nat
structure EgS where
 shape : Int
 tries : Int
 m : Mm
 hist : HS
 ws : Nat → WkS
 steps : Nat
abbrev EgL.n (E : EgL) : Nat := E.M.L.th.toNat
abbrev WkU (w : World) (C : Nat → Nat) (E : EgL) (u : Nat) (x : WkS) : Prop := WkAt w C (cM u) (cS u) (cK u) (cQ u) (E.sg u) (E.wb u) E.M.L u x
structure WksAt (w : World) (C : Nat → Nat) (E : EgL) (ws : Nat → WkS) (P : Nat → Prop) : Prop where
 at_ : ∀ v, v < E.n → P v → WkU w C E v (ws v)
theorem WksAt.mv {w w' : World} {C C' : Nat → Nat} {K : Nat → Prop} {T : List (Option TypeId)} {E : EgL} {ws : Nat → WkS} {P : Nat → Prop} (h : WksAt w C E ws P) (f : Fr C K T w w') (a : Agr w.heap.size C C') (hk : (∀ v, P v → ¬ K (cM v) ∧ ¬ K (cS v) ∧ ¬ K (cK v) ∧ ¬ K (cQ v)) ∨ Away TWk T) : WksAt w' C' E ws P :=
 ⟨fun v hv hp => (h.at_ v hv hp).mv f a (hk.imp (fun h => h v hp) id)⟩
theorem WksAt.fr {w w' : World} {C : Nat → Nat} {K : Nat → Prop} {T : List (Option TypeId)} {E : EgL} {ws : Nat → WkS} {P : Nat → Prop} (h : WksAt w C E ws P) (k : Fr C K T w w') (hk : (∀ v, P v → ¬ K (cM v) ∧ ¬ K (cS v) ∧ ¬ K (cK v) ∧ ¬ K (cQ v)) ∨ Away TWk T) : WksAt w' C E ws P := h.mv k (Agr.refl _ _) hk
theorem WksAt.step {w w' : World} {C : Nat → Nat} {E : EgL} {ws : Nat → WkS} {P : Nat → Prop} (h : WksAt w C E ws P) (k : Below w.heap.size w w') : WksAt w' C E ws P := h.mv (Fr.of_below k C (fun _ => False) []) (Agr.refl _ _) (.inr (by decide))
theorem WksAt.agr {w : World} {C C' : Nat → Nat} {E : EgL} {ws : Nat → WkS} {P : Nat → Prop} (h : WksAt w C E ws P) (a : Agr w.heap.size C C') : WksAt w C' E ws P := h.mv (Fr.refl C (fun _ => False) [] w) a (.inr (by decide))
instance {w : World} {C : Nat → Nat} {E : EgL} {ws : Nat → WkS} {P : Nat → Prop} : Mv (WksAt w C E ws P) w C TWk (fun w' C' => WksAt w' C' E ws P) := ⟨fun h k a hk => h.mv k a (.inr hk)⟩
def wptrs (E : EgL) (n : Nat) : List Value := (List.range n).map fun u => Value.pointer (some ⟨E.wb u, 0, none⟩)
theorem wptrs_at (E : EgL) {n u : Nat} (h : u < n) : (wptrs E n)[u]? = some (.pointer (some ⟨E.wb u, 0, none⟩)) := by
 unfold wptrs
 rw [List.getElem?_map, List.getElem?_range h]; rfl
structure EgAt (w : World) (C : Nat → Nat) (b : Nat) (E : EgL) (e : EgS) : Prop where
 blk : ∃ A cap, SB w C 3 b 79 #[.int .i64 e.shape, .int .i64 E.M.L.th, .int .i64 E.M.L.nd, .int .i64 e.tries, .pointer (some ⟨E.M.b, 0, none⟩), .pointer (some ⟨E.hb, 0, none⟩), .slice A E.n cap, .int .i64 (e.steps : Int)] ∧ Sr w C 3 80 1 A E.n (wptrs E E.n)
 mem : MemAt w C E.M e.m
 hist : HsAt w E.B E.hb e.hist
 wk : WksAt w C E e.ws (fun _ => True)
theorem EgAt.out {w w' : World} {C C' : Nat → Nat} {T : List (Option TypeId)} {b : Nat} {E : EgL} {e : EgS} (h : EgAt w C b E e) (f : Fr C (fun x => x = 0) T w w') (a : Agr w.heap.size C C') (ht : Away THs T) : EgAt w' C' b E e := by
 obtain ⟨A, cap, h1, h2⟩ := h.blk
 exact ⟨⟨A, cap, h1.mv f a (.inl (by decide)), h2.mv f a (.inl (by decide))⟩, h.mem.mv f a (.inl (by decide)), h.hist.mv f a (.inr ht), h.wk.mv f a (.inl (fun v _ => by refine ⟨?_, ?_, ?_, ?_⟩ <;> simp [cM, cS, cK, cQ]))⟩
theorem EgAt.step {w w' : World} {C : Nat → Nat} {b : Nat} {E : EgL} {e : EgS} (h : EgAt w C b E e) (k : Below w.heap.size w w') : EgAt w' C b E e := h.out (Fr.of_below k C _ []) (Agr.refl _ _) (by decide)
theorem EgAt.agr {w : World} {C C' : Nat → Nat} {b : Nat} {E : EgL} {e : EgS} (h : EgAt w C b E e) (a : Agr w.heap.size C C') : EgAt w C' b E e := h.out (Fr.refl C _ [] w) a (by decide)
theorem wpSz : (Tryz.prog.info? 80).map (·.size) = some 1 := by kernel_rfl
theorem tkSz : (Tryz.prog.info? 85).map (·.size) = some 3 := by kernel_rfl
theorem worker_left {w : World} {C : Nat → Nat} {k q sg b : Nat} {A : Option Addr} {n cap : Nat} {pn tv lv : Value} {x : WkS} (h : WkC w C k q sg b A n cap pn tv lv x) : Calls Tryz.prog 29 #[.pointer (some ⟨b, 0, none⟩)] w fun e w' => e = .returned (.int .i64 x.left) ∧ Below w.heap.size w w' := by
 obtain ⟨sb, hlen, hsm, hle, -, -, -⟩ := h
 have e6 : wrap64 ((n : Int) - (x.ended : Int)) = x.left := by rw [IntWalk.wrap64_in _ (by omega)]; unfold WkS.left; rw [hlen]
 obtain ⟨lf, hlf⟩ : ∃ lf, x.left = lf := ⟨_, rfl⟩
 obtain ⟨en, hen⟩ : ∃ en, x.ended = en := ⟨_, rfl⟩
 rw [hlf] at e6 ⊢
 rw [hen] at sb e6
 clear hlf hen hle hlen hsm
 go_enter Tryz.func29, Tryz.ntmps29
 have fr := Fr.refl C (fun _ => False) [] w
 have ag := Agr.refl w.heap.size C
 go_wp2_with fail
 revert sb; revert fr; refine drw ?_; intro fr sb
 obtain ⟨q1, qi⟩ := such1 sb
 refine wp_such1 sb 10 [] [0, 1, 2, 3, 4, 5, 6, 7, 8, 9] [10] (by kernel_rfl) (by kernel_rfl) ?_
 refine wpPh_nil ?_; try simp only [ox]
 repeat (go_big_quiet_step (fail))
 refine wpQuiet_nil ?_
 refine wpTail_late _ _ _ (by kernel_rfl) ?_; try simp only [ox]
 clear qi q1
 go_wp2_with fail
 refine NoPanic.normal ?_
 go_wp2_with fail
 go_ret
 exact ⟨congrArg (fun v => Ending.returned (.int .i64 v)) e6, fr.toBel⟩
theorem engine_worker_lo {w : World} {C : Nat → Nat} {b : Nat} {E : EgL} {e : EgS} (h : EgAt w C b E e) (u : Int) (hu : u < 0) : Calls Tryz.prog 28 #[.pointer (some ⟨b, 0, none⟩), .int .i64 u] w fun r w' => r = .returned (.pointer none) ∧ Below w.heap.size w w' := by
 obtain ⟨⟨A, cap, sb, hsr⟩, -, -, -⟩ := h
 clear hsr
 have d0 : decide (u < 0) = true := decide_eq_true hu
 go_enter Tryz.func28, Tryz.ntmps28
 have fr := Fr.refl C (fun _ => False) [] w
 have ag := Agr.refl w.heap.size C
 go_wp2_with fail
 go_ret
 exact ⟨rfl, fr.toBel⟩
theorem engine_worker_hi {w : World} {C : Nat → Nat} {b : Nat} {E : EgL} {e : EgS} (h : EgAt w C b E e) (u : Int) (hu : ¬ u < 0) (hu2 : (E.n : Int) ≤ u) : Calls Tryz.prog 28 #[.pointer (some ⟨b, 0, none⟩), .int .i64 u] w fun r w' => r = .returned (.pointer none) ∧ Below w.heap.size w w' := by
 obtain ⟨⟨A, cap, sb, hsr⟩, -, -, -⟩ := h
 clear hsr
 obtain ⟨N, hN⟩ : ∃ N, E.n = N := ⟨_, rfl⟩
 rw [hN] at sb hu2
 have d0 : decide (u < 0) = false := decide_eq_false hu
 have d1 : decide (u ≥ (N : Int)) = true := decide_eq_true hu2
 clear hN
 go_enter Tryz.func28, Tryz.ntmps28
 have fr := Fr.refl C (fun _ => False) [] w
 have ag := Agr.refl w.heap.size C
 go_wp2_with fail
 go_ret
 exact ⟨rfl, fr.toBel⟩
theorem engine_worker_in {w : World} {C : Nat → Nat} {b : Nat} {E : EgL} {e : EgS} (h : EgAt w C b E e) (u : Nat) (hu : u < E.n) : Calls Tryz.prog 28 #[.pointer (some ⟨b, 0, none⟩), .int .i64 (u : Int)] w fun r w' => r = .returned (.pointer (some ⟨E.wb u, 0, none⟩)) ∧ Below w.heap.size w w' := by
 obtain ⟨⟨A, cap, sb, hsr⟩, -, -, -⟩ := h
 have d0 : decide ((u : Int) < 0) = false := decide_eq_false (by omega)
 have d1 : decide ((u : Int) ≥ (E.n : Int)) = false := decide_eq_false (by omega)
 obtain ⟨N, hN⟩ : ∃ N, E.n = N := ⟨_, rfl⟩
 have hidx := hsr.sl.idx (P := Tryz.prog) (c := cap) Tryz.underlying77 wpSz hu
 have hcl := hsr.sl.cell u (by omega)
 rw [wptrs_at E hu] at hcl
 simp only [Nat.mul_one] at hidx
 clear hsr
 rw [hN] at sb hidx d1 hu
 clear hN
 go_enter Tryz.func28, Tryz.ntmps28
 have fr := Fr.refl C (fun _ => False) [] w
 have ag := Agr.refl w.heap.size C
 go_wp2_with fail
 go_ret
 exact ⟨rfl, fr.toBel⟩
theorem do_Task {w : World} {C : Nat → Nat} {c sg b : Nat} {d : DoS} {ph pl pe pf pa pr pi pd ps : Value} (sb : DoC w C c sg b ph pl pe pf pa pr pi pd ps d) : Calls Tryz.prog 32 #[.pointer (some ⟨b, 0, none⟩)] w fun e w' => e = .returned d.task.val ∧ Below w.heap.size w w' := by
 unfold DoC at sb
 obtain ⟨⟨rc, ro, rv⟩, slow, ⟨sh, kind, key⟩, limit, at_, head, help, ens, fast, ann, find, drop, sweep⟩ := d
 simp only at sb ⊢
 have hl := sb.lt
 go_enter Tryz.func32, Tryz.ntmps32
 have fr := Fr.refl C (fun _ => False) [] w
 have ag := Agr.refl w.heap.size C
 go_wp2_with fail
 have hc_dz := (Blk.new w 85 #[.int .i64 sh, .int .i64 kind, .int .i64 key]).cells
 refine bodyPost_ret (v := .agg #[.int .i64 sh, .int .i64 kind, .int .i64 key]) (by simp [results, Tryz.results32, go_sem, hc_dz]) rfl ⟨rfl, (Below.refl _ _).alloc (Nat.le_refl _) _⟩
theorem thread_New {w : World} {C : Nat → Nat} {c s sg : Nat} {L : Ly} {me : Int} {t : StS} (hst : StAt w C s sg L me t) (k : Tk3) (limit : Int) : Calls Tryz.prog 49 #[.pointer (some ⟨sg, 0, none⟩), k.val, .int .i64 limit] w (NewO C c [] (fun w' C' b => DoAt w' C' c s sg b L me (.new L k limit)) w) := by
 obtain ⟨⟨A, n, cap, hn, sb, hrow⟩, -, -, -⟩ := hst
 obtain ⟨sh, kind, key⟩ := k
 clear hn hrow
 go_enter Tryz.func49, Tryz.ntmps49
 have fr := Fr.refl C (K0 c) [] w
 have ag := Agr.refl w.heap.size C
 have z1 := sb
 revert sb; revert fr; refine bx1 85 #[.int .i64 sh, .int .i64 kind, .int .i64 key] ?_; rintro w1 etb ltb fr tb sb
 go_wp2_with fail
 clear etb z1
 revert fr tb sb; refine drw ?_; intro fr tb sb
 obtain ⟨q1, q2, qi⟩ := such2 sb tb
 refine wp_such2 sb tb 9 [([0, 1, 2, 3, 4, 5, 6], 7)] [8] [9, 10] (by kernel_rfl) (by kernel_rfl) ?_
 refine wpPh_cons ?_; simp only [ox]; repeat (go_big_quiet_step (fail))
 refine pho rfl (fun K' hK' => ?_); go_simp
 revert ag fr tb sb; with_reducible refine newb (queue_New L C c _) ?_; rintro w2 bh C2 ag fr hhd tb sb
 refine hK' _ _ (mks2 sb tb) ?_; clear hK' K'
 refine wpPh_nil ?_; try simp only [ox]
 repeat (go_big_quiet_step (fail))
 refine wpQuiet_nil ?_
 refine wpTail_late _ _ _ (by kernel_rfl) ?_; try simp only [ox]
 clear qi q1 q2
 go_wp2_with fail
 refine NoPanic.normal ?_
 go_wp2_with fail
 go_ret
 refine ⟨⟨w2.heap.size, paint C2 w2.heap.size c, rfl, ag.trans (Agr.paint _ _ _) fr.size, ?_⟩, fr.step ((Below.refl _ _).alloc (Nat.le_refl _) _)⟩
 exact .of0 (SB.new w2 (paint C2 w2.heap.size c) (paint_new _ _ (Nat.le_refl _)) 129 #[.pointer (some ⟨sg, 0, none⟩), .int .i64 0, .bool false, .int .i64 0, .bool false, .int .i64 sh, .int .i64 kind, .int .i64 key, .int .i64 limit, .int .i64 0, .pointer (some ⟨bh, 0, none⟩), .pointer none, .pointer none, .pointer none, .pointer none, .pointer none, .pointer none, .pointer none, .pointer none] rfl) rfl ((hhd.agr (Agr.paint _ _ _)).step ((Below.refl _ _).alloc (Nat.le_refl _) _))
def Kw (c s k q : Nat) : Nat → Prop := fun x => x = c ∨ x = s ∨ x = k ∨ x = q ∨ x = 1
theorem Kw_k (c s k q : Nat) : ∀ x, K0 k x → Kw c s k q x := fun _ h => .inr (.inr (.inl h))
theorem Kw_q (c s k q : Nat) : ∀ x, K0 q x → Kw c s k q x := fun _ h => .inr (.inr (.inr (.inl h)))
theorem Kw_c (c s k q : Nat) : ∀ x, K0 c x → Kw c s k q x := fun _ h => .inl h
theorem Kw_cs (c s k q : Nat) : ∀ x, Kcs c s x → Kw c s k q x := fun _ h => h.elim .inl (fun h => h.elim (fun h => .inr (.inl h)) (fun h => .inr (.inr (.inr (.inr h)))))
def LWk : List (Option TypeId) := some 91 :: some 3 :: LDo
def LWb : List (Option TypeId) := [some 91, some 3]
theorem LDo_LWk : ∀ x, x ∈ LDo → x ∈ LWk := fun _ h => .tail _ (.tail _ h)
theorem flat_task (l : List Tk3) (k i : Nat) (t : Tk3) (hk : l[k]? = some t) (hi : i < 3) : (l.flatMap Tk3.cells)[k * 3 + i]? = t.cells[i]? := flat_at Tk3.cells 3 Tk3.cells_len l k i t hk hi
theorem worker_begin_some {w : World} {C : Nat → Nat} {k q sg b : Nat} {A : Option Addr} {n cap bd : Nat} {tv lv : Value} {x : WkS} (h : WkC w C k q sg b A n cap (.pointer (some ⟨bd, 0, none⟩)) tv lv x) (tries : Int) : Calls Tryz.prog 30 #[.pointer (some ⟨b, 0, none⟩), .int .i64 tries] w fun e w' => e = .returned (.bool false) ∧ Below w.heap.size w w' := by
 obtain ⟨sb, -, -, -, -, -, -⟩ := h
 obtain ⟨en, hen⟩ : ∃ en, x.ended = en := ⟨_, rfl⟩
 rw [hen] at sb
 clear hen
 have hc := sb.blk.cells
 go_enter Tryz.func30, Tryz.ntmps30
 go_wp2_with fail
 go_ret
 exact ⟨rfl, Below.refl _ _⟩
theorem worker_begin_none {w : World} {C : Nat → Nat} {c s k q sg b : Nat} {L : Ly} {me : Int} {x : WkS} (h : WkAt w C c s k q sg b L me x) (hnow : x.now = none) {tk : Tk3} (htk : x.tasks[x.ended]? = some tk) (hkc : k ≠ c) (hks : k ≠ s) (hkq : k ≠ q) (tries : Int) :
  Calls Tryz.prog 30 #[.pointer (some ⟨b, 0, none⟩), .int .i64 tries] w (OW C (Kw c s k q) LWb (.bool true) (fun w' C' => WkAt w' C' c s k q sg b L me { x with now := some (.new L tk tries) }) w) := by
 obtain ⟨hst, A, n, cap, pn, tv, lv, ⟨sb, hlen, hsm, hle, hsr, ⟨n1, xs, hrow, hxl, hn1⟩, ⟨n2, ys, hslow, hyl, hn2⟩⟩, hpn⟩ := h
 obtain ⟨stt, tasks, en, now⟩ := x
 simp only at hst sb hlen hle hsr hn1 hn2 hpn hnow htk
 subst hnow
 have hpn' : pn = .pointer none := hpn
 subst hpn'
 have hlt : en < n := by rw [← hlen]; exact (List.getElem?_eq_some_iff.1 htk).1
 simp only [Option.isSome_none] at hn1
 obtain ⟨A2, cap1, rfl, hnc, hnil, hA2⟩ := hrow.form
 obtain ⟨cs, htb, hcol⟩ := hsr.blk (by omega)
 have hidx := hsr.sl.idx (P := Tryz.prog) (c := cap) Tryz.underlying87 tkSz hlt
 have tkb : SB w C k (ablk A) 85 cs := SB.mk htb hcol
 have hcell : ∀ i, i < 3 → cs[aoff A + en * 3 + i]? = tk.cells[i]? := fun i hi => by
  have h1 := hsr.sl.at_ hlt hi
  rw [htb.cell, flat_task _ _ _ _ htk hi] at h1
  exact h1
 have f0 := hcell 0 (by omega)
 have f1 := hcell 1 (by omega)
 have f2 := hcell 2 (by omega)
 obtain ⟨sh, kind, key⟩ := tk
 simp only [Tk3.cells, List.getElem?_cons_zero, List.getElem?_cons_succ, Nat.add_zero] at f0 f1 f2
 obtain ⟨i0, hi, hz0, hz1, hz2⟩ := info_parts info_int
 have hnn : n1 ≤ 100000 := by simp at hn1; omega
 have HIV : Hid (ivs (xs ++ [0]) = ivs xs ++ [.int .i64 0]) := Lib.hid (by simp [ivs])
 have HN := Lib.hid hn1
 have HX := Lib.hid hxl
 have HKc : ¬ K0 k c := fun e => hkc e.symm
 have HKs : ¬ K0 k s := fun e => hks e.symm
 have HKq : ¬ K0 k q := fun e => hkq e.symm
 clear hcell htb hn1 hxl hnc hA2 htk hpn
 go_enter Tryz.func30, Tryz.ntmps30
 have fr := Fr.refl C (Kw c s k q) LWb w
 have ag := Agr.refl w.heap.size C
 go_wp2_with fail
 revert tkb; revert hsr; revert hslow; revert hrow; revert hst; revert sb; revert fr; refine drw ?_; intro fr sb hst hrow hslow hsr tkb
 obtain ⟨q1, q2, qi⟩ := such2 sb tkb
 refine wp_such2 sb tkb 16 [] [0, 1, 2, 3, 4, 5, 6, 7, 8, 9, 10, 11, 12, 13, 14, 15] [16, 17, 18, 19] (by kernel_rfl) (by kernel_rfl) ?_
 refine wpPh_nil ?_; try simp only [ox]
 repeat (go_big_quiet_step (fail))
 refine wpQuiet_nil ?_
 refine wpTail_late _ _ _ (by kernel_rfl) ?_; try simp only [ox]
 clear qi q1 q2
 go_wp2_with fail
 refine (thread_New (C := C) (c := c) hst ⟨sh, kind, key⟩ tries).mono ?_
 rintro e w1 ⟨⟨bd, C1, rfl, ag1, hdo⟩, hf1⟩
 have sz := fr.size
 replace fr := fr.trans (hf1.mono (Kw_c c s k q) (by simp)) ag
 replace sb := sb.mv hf1 ag1 (.inr (by decide))
 replace hst := hst.mv hf1 ag1 (.inr (by decide))
 replace hrow := hrow.mv hf1 ag1 (.inr (by decide))
 replace hslow := hslow.mv hf1 ag1 (.inr (by decide))
 replace hsr := hsr.mv hf1 ag1 (.inr (by decide))
 replace tkb := tkb.mv hf1 ag1 (.inr (by decide))
 replace ag := ag.trans ag1 sz
 clear sz ag1 hf1
 have z1 := And.intro sb tkb
 revert tkb; revert hdo; revert hsr; revert hslow; revert hrow; revert hst; revert fr; refine st1 sb 3 (.pointer (some ⟨bd, 0, none⟩)) (Kw_k c s k q) ag ?_; clear sb; rintro w2 e1 fr sb hst hrow hslow hsr hdo tkb
 simp only [sx] at sb
 go_wp2_with fail
 try simp only [e1]
 clear z1 e1
 refine NoPanic.normal ?_
 have z2 := And.intro sb tkb
 revert fr hst hrow hslow hsr hdo tkb sb; refine bx1 3 #[.int .i64 0] ?_; rintro w3 ens lns fr ns hst hrow hslow hsr hdo tkb sb
 go_wp2_with (at_builtin; refine wpList_append_lies _ rfl _ _ _ rfl 0 3 i0 _ 1 8 Tryz.underlying89 hi hz0 hz1 hz2 rfl (by omega) (.slice A2 n1 cap1) n1 (ivs xs) rfl hrow.own ⟨w2.heap.size, 0, none⟩ 1 1 [.int .i64 0] rfl rfl (World.news_of_block ns.blk) (ivs_one [0]) (by omega) (by unfold maxLen; omega) (by omega) (Nat.zero_le _) (w3.heap.size) rfl ?_; intro g cap2 wA hownA hgrowA hatA hltA; have hfA : Fr C1 (K0 k) [some 3] w3 wA := (Fr.refl C1 (K0 k) [some 3] w3).app hrow hgrowA (K0_own k) (by decide); have sA := sb.fr hfA (.inr (by decide)))
 have hrA := hrow.app hownA (hatA.elim (fun e => .inl e.symm) (fun e => .inr (by rw [e]; rfl)))
 obtain ⟨CA, hCA⟩ : ∃ C', C' = paint C1 w3.heap.size k := ⟨_, rfl⟩
 rw [← hCA] at hrA
 have aG : Agr w3.heap.size C1 CA := by rw [hCA]; exact Agr.paint _ _ _
 replace hst := hst.mv hfA aG (.inl HKs)
 replace hdo := hdo.mv hfA aG (.inl ⟨HKc, HKs⟩)
 replace hslow := hslow.mv hfA aG (.inl HKq)
 clear hrow ns sA hCA; revert tkb; revert hsr; revert sb; revert fr; revert ag; refine mvm hfA aG (Kw_k c s k q) (by decide) ?_; intro ag fr sb hsr tkb
 have hrow := hrA
 clear hrA aG hfA hgrowA hatA hownA
 have ownne := own_ne hrow.own sb.blk (by decide)
 revert hst hdo hslow hsr tkb hrow; revert fr; refine st1 sb 4 (.slice (some ⟨g, 0, none⟩) (n1 + 1) cap2) (Kw_k c s k q) ag ?_; clear sb; rintro w4 e1 fr sb hst hdo hslow hsr tkb hrow
 simp only [sx] at sb
 rw [e1]
 clear ens z2 e1
 clear ownne
 go_wp2_with fail
 go_ret
 refine ⟨rfl, ⟨_, ag, ?_⟩, fr⟩
 refine ⟨hst, A, n, cap, _, _, lv, ⟨sb, hlen, hsm, hle, hsr, ⟨n1 + 1, xs ++ [0], by rw [HIV.out]; exact hrow, by simp [HX.out], ?_⟩, ⟨n2, ys, hslow, hyl, hn2⟩⟩, bd, rfl, hdo⟩
 have := HN.out
 simp at this ⊢
 omega
end Go.Proofs.YtbcnnhlpilmmbaaGreat
