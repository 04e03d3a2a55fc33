/- Contract of the document's Calls.
   Conditions: at most 1000 events. -/
import Derived.Test.YtboommppikfgnaaDoorHRefW
import Derived.Test.YtboommppikfgnaaDoorLead
import Derived.Test.YtboommppikfgnaaDoorApp
import Derived.Deep.DeepCutAuto
namespace Go.Proofs.YtboommppikfgnaaDoor
open Go Go.RowKit

theorem info_RC : (Tryd.prog.info? 68).map (fun i => (i.zero, i.size, i.bytes)) = some (some (.agg #[.int .i64 0, .int .i64 0, .int .i64 0, .int .i64 0, .int .i64 0, .int .i64 0, .bool false, .int .i64 0]), 8, 64) := by kernel_rfl

theorem RC.see_th (c : RC) (evs : List Ev) (j : Nat) : (c.see evs j).th = c.th ∧ (c.see evs j).began = c.began ∧ (c.see evs j).kind = c.kind ∧ (c.see evs j).key = c.key := by
  unfold RC.see
  split
  · split
    · split <;> exact ⟨rfl, rfl, rfl, rfl⟩
    · exact ⟨rfl, rfl, rfl, rfl⟩
  · exact ⟨rfl, rfl, rfl, rfl⟩

theorem RC.sees_done (c : RC) (evs : List Ev) (i : Nat) : ∀ m k, 0 ≤ (c.sees evs i m).ended → c.sees evs i (m + k) = c.sees evs i m
  | m, 0, _ => rfl
  | m, k + 1, h => by
    have ih := RC.sees_done c evs i m k h
    rw [← Nat.add_assoc]
    simp only [RC.sees]
    rw [ih]
    unfold RC.see
    rw [if_neg (by omega)]

set_option maxRecDepth 100000 in
set_option maxHeartbeats 3200000 in
theorem ref_calls (A : Option Addr) (n c B : Nat) (evs : List Ev) (w : World) (hs : Sl w B 7 A n (evs.flatMap Ev.cells)) (hB : B ≤ w.heap.size) (hel : evs.length = n) (hn : n ≤ 1000) :
    Calls Tryd.prog 10 #[.slice A n c] w fun r w' => ∃ v, r = .returned v ∧ w'.ownsRow w.heap.size 68 8 v (rcalls evs).length ((rcalls evs).flatMap RC.cells) ∧ Below w.heap.size w w' := by
  obtain ⟨iC, hiC, zC, sC, bC⟩ := info_parts info_RC
  have HL := Lib.hid hel
  have hrc : rcalls evs = rcallsTo evs n := by rw [← hel]; rfl
  have HRC := Lib.hid hrc
  clear hel hrc
  go_enter Tryd.func10, Tryd.ntmps10
  go_wp2
  go_loopw [3, 4] (fun out i wr => ∃ k : Nat, k ≤ n ∧ i = .int .i64 k ∧ wr.ownsRow w.heap.size 68 8 out (rcallsTo evs k).length ((rcallsTo evs k).flatMap RC.cells) ∧ (rcallsTo evs k).length ≤ k ∧ Below w.heap.size w wr) (fun _ i _ => n - (intOf i).toNat)
  case atStart => exact ⟨0, by omega, rfl, World.ownsRow_nil _ _ _ _, Nat.le_refl _, Below.refl _ _⟩
  case round =>
    obtain ⟨k, hk, rfl, hown, hle, hb⟩ := hrel
    by_cases hlt : k < n
    · have dk : decide ((k : Int) < (n : Int)) = true := by simp; omega
      obtain ⟨e, he⟩ : ∃ e, evs[k]? = some e := ⟨_, List.getElem?_eq_getElem (by rw [HL.out]; exact hlt)⟩
      have hs1 := hs.step hB hb
      have hidx := hs1.idx (P := Tryd.prog) (c := c) Tryd.underlying22 evSz hlt
      obtain ⟨f0, f1, f2, f3, f4, f5, f6⟩ := ev_cells hs1 hlt he
      have hbs := hb.size
      have hstep : rcallsTo evs (k + 1) = rcallsTo evs k ++ (if e.ends then [] else [rcall evs e k]) := by simp only [rcallsTo, he]
      cases hen : e.ends with
      | true =>
        rw [hen] at f1 hstep
        simp only [if_true, List.append_nil] at hstep
        have HST := Lib.hid hstep
        clear hstep hen he
        go_wp2
        go_roundw
        case rel => exact ⟨k + 1, by omega, by go_num, by rw [HST.out]; exact hown, by rw [HST.out]; omega, hb⟩
        case measure => simp [intOf]; omega
      | false =>
        rw [hen] at f1 hstep
        have HST := Lib.hid hstep
        obtain ⟨out, hout⟩ : ∃ out, out = rcallsTo evs k := ⟨_, rfl⟩
        rw [← hout] at hown hle
        have HO := Lib.hid hout
        clear hout hstep hen he
        have hkl0 : (0 : Int) ≤ (k : Int) := by omega
        go_wp2_with fail
        have hlx : 0 < n → ablk A < wr.heap.size := fun h => by have := hs1.blt h; omega
        have hix := fun q : Later wr.heap.size wr => hidx q.val
        have q0 := Later.cell (B := wr.heap.size) f0 (hlx (by omega))
        have q2 := Later.cell (B := wr.heap.size) f2 (hlx (by omega))
        have q3 := Later.cell (B := wr.heap.size) f3 (hlx (by omega))
        refine wp_region_lead (fun w' => ∃ q : Later wr.heap.size wr, w' = q.val) 13 [0, 1, 2, 3, 4, 5, 6, 7, 8, 9, 10, 11] [12, 13] (by kernel_rfl) (by kernel_rfl) (Later.mk_ (Below.refl _ _).drew) ?_
        simp only [opsAt, List.map_cons, List.map_nil, List.toList_toArray, List.getD_cons_zero, List.getD_cons_succ]
        repeat (go_big_quiet_step (fail))
        refine wpQuiet_nil ?_
        refine wpTail_early rfl (fun K hK => ?_)
        go_simp
        refine hK _ _ (Later.mk_ ((Below.refl _ _).alloc (Nat.le_refl _) _).drew) ?_
        clear hK K q0 q2 q3 hix
        refine wpTail_late _ _ _ (by kernel_rfl) ?_
        simp only [opsAt, List.map_cons, List.map_nil, List.toList_toArray, List.getD_cons_zero, List.getD_cons_succ]
        go_wp2_with fail
        refine NoPanic.normal ?_
        have hx0 := Blk.new wr 68 #[.int .i64 e.th, .int .i64 k, .int .i64 (-1), .int .i64 e.kind, .int .i64 e.key, .int .i64 0, .bool false, .int .i64 0]
        have hx0 := hx0.drew
        have hbx0 : Below wr.heap.size wr (wr.alloc (.cells #[.int .i64 e.th, .int .i64 k, .int .i64 (-1), .int .i64 e.kind, .int .i64 e.key, .int .i64 0, .bool false, .int .i64 0] 68)).drew := ((Below.refl _ _).alloc (Nat.le_refl _) _).drew
        generalize ((wr.alloc (.cells #[.int .i64 e.th, .int .i64 k, .int .i64 (-1), .int .i64 e.kind, .int .i64 e.key, .int .i64 0, .bool false, .int .i64 0] 68)).drew) = W0 at *
        generalize hX : wr.heap.size = X at *
        have hXl := hx0.lt
        clear f0 f1 f2 f3 f4 f5 f6
        go_wp2_with fail
        go_loopw [6] (fun j wr' => ∃ (m : Nat) (C : RC), k + 1 + m ≤ n ∧ j = .int .i64 ((k + 1 + m : Nat) : Int) ∧ Blk wr' X 68 #[.int .i64 C.th, .int .i64 C.began, .int .i64 C.ended, .int .i64 C.kind, .int .i64 C.key, .int .i64 C.code, .bool C.ok, .int .i64 C.val] ∧ C = (RC.start e k).sees evs (k + 1) m ∧ Below X wr wr' ∧ X < wr'.heap.size) (fun j _ => n - (intOf j).toNat)
        case atStart => exact ⟨0, RC.start e k, by omega, by go_num, hx0, rfl, hbx0, hXl⟩
        case round =>
          obtain ⟨m, C, hm, rfl, hx, hC, hbx, hXl'⟩ := hrel
          have hs5 := hs1.step (by omega) (hbx.mono (by omega))
          have hbs5 := hbx.size
          have cx := hx.cells
          have cf := hx.frees
          have hfin0 : (¬ (k + 1 + m < n) ∨ ¬ C.ended < 0) → C = rcall evs e k := by
            intro h
            unfold rcall
            rw [HL.out]
            rcases h with h | h
            · rw [hC]; congr 1; omega
            · have h1 := RC.sees_done (RC.start e k) evs (k + 1) m (n - (k + 1) - m) (by rw [← hC]; omega)
              rw [hC, ← h1]; congr 1; omega
          by_cases hgo : k + 1 + m < n ∧ C.ended < 0
          · obtain ⟨hj, hend⟩ := hgo
            have dj : decide (((k + 1 + m : Nat) : Int) < (n : Int)) = true := by simp; omega
            have dend : decide (C.ended < 0) = true := by simpa using hend
            obtain ⟨e2, he2⟩ : ∃ e2, evs[k + 1 + m]? = some e2 := ⟨_, List.getElem?_eq_getElem (by rw [HL.out]; exact hj)⟩
            have hidx5 := hs5.idx (P := Tryd.prog) (c := c) Tryd.underlying22 evSz hj
            obtain ⟨g0, g1, g2, g3, g4, g5, g6⟩ := ev_cells hs5 hj he2
            have hlx5 : ablk A < wr.heap.size := by have := hs5.blt (by omega); omega
            have q0 := Later.cell (B := wr.heap.size) g0 hlx5
            have qx := Later.cells hx hXl'
            have hix := fun q : Later wr.heap.size wr => hidx5 q.val
            have hsee : C.see evs (k + 1 + m) = if e2.th = C.th then { C with ended := ((k + 1 + m : Nat) : Int), code := e2.code, ok := e2.ok, val := e2.val } else C := by
              unfold RC.see; rw [if_pos hend, he2]
            have hC' : (RC.start e k).sees evs (k + 1) (m + 1) = C.see evs (k + 1 + m) := by simp only [RC.sees, ← hC]
            have hj0 : (0 : Int) ≤ ((k + 1 + m : Nat) : Int) := by omega
            have hj1 : ((k + 1 + m : Nat) : Int) < (n : Int) := by omega
            generalize hJ : k + 1 + m = J at *
            by_cases het : e2.th = C.th
            · have hb : (e2.th == C.th) = true := by simpa using het
              rw [if_pos het] at hsee
              rw [hsee] at hC'
              have HC' := Lib.hid hC'
              have HJ := Lib.hid hJ
              clear hC' hsee hJ hC hfin0 he2 het
              go_wp2_with fail
              refine wp_region_later wr.heap.size (by kernel_rfl) (by kernel_rfl) ?_
              repeat (go_big_quiet_step (fail))
              refine wpQuiet_nil ?_
              intro w6 hq6
              obtain ⟨q6, hq6⟩ := hq6
              have hb6 : Below wr.heap.size wr w6 := by rw [hq6]; exact q6.below
              clear hq6 q6 q0 qx hix cx cf g0 g1 g2 g3
              have hx6 := hx.step hb6
              have hs6 := hs5.step (by omega) hb6
              have cx := hx6.cells
              have cf := hx6.frees
              have h4 := (hb6.cell (p := ⟨ablk A, aoff A + J * 7 + 4, none⟩) hlx5).trans g4
              have h5 := (hb6.cell (p := ⟨ablk A, aoff A + J * 7 + 5, none⟩) hlx5).trans g5
              have h6 := (hb6.cell (p := ⟨ablk A, aoff A + J * 7 + 6, none⟩) hlx5).trans g6
              have hne : ablk A ≠ X := by have := hs5.blt (by omega); omega
              clear g4 g5 g6
              go_wp2_with fail
              have hx7 := (((hx6.set_ 2 (.int .i64 (J : Int))).set_ 5 (.int .i64 e2.code)).set_ 6 (.bool e2.ok)).set_ 7 (.int .i64 e2.val)
              refine ⟨⟨m + 1, { C with ended := (J : Int), code := e2.code, ok := e2.ok, val := e2.val }, by have := HJ.out; omega, ?_, hx7, HC'.out.symm, ?_, ?_⟩, ?_⟩
              · have := HJ.out; congr 1; push_cast; omega
              · exact ((((hbx.trans (hb6.mono (by omega))).setCell (Nat.le_refl _) _).setCell (Nat.le_refl _) _).setCell (Nat.le_refl _) _).setCell (Nat.le_refl _) _
              · exact hx7.lt
              · simp [intOf]; omega
            · have hb : (e2.th == C.th) = false := by simpa using het
              rw [if_neg het] at hsee
              rw [hsee] at hC'
              have HC' := Lib.hid hC'
              have HJ := Lib.hid hJ
              clear hC' hsee hJ hC hfin0 he2 het
              go_wp2_with fail
              refine wp_region_later wr.heap.size (by kernel_rfl) (by kernel_rfl) ?_
              repeat (go_big_quiet_step (fail))
              refine wpQuiet_nil ?_
              intro w6 hq6
              obtain ⟨q6, hq6⟩ := hq6
              have hb6 : Below wr.heap.size wr w6 := by rw [hq6]; exact q6.below
              clear hq6 q6 q0 qx hix cx cf g0 g1 g2 g3 g4 g5 g6
              have hx6 := hx.step hb6
              go_wp2_with fail
              refine ⟨⟨m + 1, C, by have := HJ.out; omega, ?_, hx6, HC'.out.symm, ?_, ?_⟩, ?_⟩
              · have := HJ.out; congr 1; push_cast; omega
              · exact hbx.trans (hb6.mono (by omega))
              · exact hx6.lt
              · simp [intOf]; omega
          · have hCr := Lib.hid (hfin0 (by omega))
            have hj0 : (0 : Int) ≤ ((k + 1 + m : Nat) : Int) := by omega
            clear hfin0 hC
            generalize hJ : k + 1 + m = J at *
            rcases (by omega : ¬ J < n ∨ (J < n ∧ ¬ C.ended < 0)) with h | ⟨h, h'⟩
            · have dj : decide ((J : Int) < (n : Int)) = false := by simp; omega
              go_upto_region 13 with (fail)
              have hown2 := (own_step hown (hX ▸ hbx)).alloc (.cells #[.int .i64 C.th, .int .i64 C.began, .int .i64 C.ended, .int .i64 C.kind, .int .i64 C.key, .int .i64 C.code, .bool C.ok, .int .i64 C.val] 68)
              go_wp2_with (at_builtin; refine wpList_append_lies _ rfl _ _ _ rfl w.heap.size 68 iC _ 8 64 Tryd.underlying27 hiC zC sC bC rfl (by omega) _ out.length (out.flatMap RC.cells) rfl hown2 ⟨wr.heap.size, 0, none⟩ 1 1 C.cells rfl rfl (World.news_of_block (heap_alloc_new wr _)) (RC.cells_one _) (by omega) (by unfold maxLen; omega) (by omega) (by simp; omega) (wr.heap.size + 1) (by simp) ?_; intro g cap w9 hown9 hgrow hat hlt9)
              have hgrow' : (wr.alloc (.cells #[.int .i64 C.th, .int .i64 C.began, .int .i64 C.ended, .int .i64 C.kind, .int .i64 C.key, .int .i64 C.code, .bool C.ok, .int .i64 C.val] 68)).grownBy w9 (Value.ownBlock u3) := hgrow
              clear hgrow hat
              have hcs : rcallsTo evs (k + 1) = out ++ [C] := by rw [HST.out, ← HO.out, hCr.out]; rfl
              refine ⟨⟨k + 1, by omega, by go_num, ?_, ?_, ?_⟩, ?_⟩
              · rw [hcs]; simpa using hown9
              · rw [hcs]; simp; omega
              · exact ((hb.trans (hbx.mono (by omega))).alloc (by omega) _).grown hgrow' (by simp; omega) (fun g0 h0 => (own_at hown g0 h0).1)
              · simp [intOf]; omega
            · have dj : decide ((J : Int) < (n : Int)) = true := by simp; omega
              have dend : decide (C.ended < 0) = false := by simpa using h'
              go_upto_region 13 with (fail)
              have hown2 := (own_step hown (hX ▸ hbx)).alloc (.cells #[.int .i64 C.th, .int .i64 C.began, .int .i64 C.ended, .int .i64 C.kind, .int .i64 C.key, .int .i64 C.code, .bool C.ok, .int .i64 C.val] 68)
              go_wp2_with (at_builtin; refine wpList_append_lies _ rfl _ _ _ rfl w.heap.size 68 iC _ 8 64 Tryd.underlying27 hiC zC sC bC rfl (by omega) _ out.length (out.flatMap RC.cells) rfl hown2 ⟨wr.heap.size, 0, none⟩ 1 1 C.cells rfl rfl (World.news_of_block (heap_alloc_new wr _)) (RC.cells_one _) (by omega) (by unfold maxLen; omega) (by omega) (by simp; omega) (wr.heap.size + 1) (by simp) ?_; intro g cap w9 hown9 hgrow hat hlt9)
              have hgrow' : (wr.alloc (.cells #[.int .i64 C.th, .int .i64 C.began, .int .i64 C.ended, .int .i64 C.kind, .int .i64 C.key, .int .i64 C.code, .bool C.ok, .int .i64 C.val] 68)).grownBy w9 (Value.ownBlock u3) := hgrow
              clear hgrow hat
              have hcs : rcallsTo evs (k + 1) = out ++ [C] := by rw [HST.out, ← HO.out, hCr.out]; rfl
              refine ⟨⟨k + 1, by omega, by go_num, ?_, ?_, ?_⟩, ?_⟩
              · rw [hcs]; simpa using hown9
              · rw [hcs]; simp; omega
              · exact ((hb.trans (hbx.mono (by omega))).alloc (by omega) _).grown hgrow' (by simp; omega) (fun g0 h0 => (own_at hown g0 h0).1)
              · simp [intOf]; omega
    · have dk : decide ((k : Int) < (n : Int)) = false := by simp; omega
      obtain rfl : k = n := by omega
      rw [← HRC.out] at hown
      go_wp2
      go_ret
      exact ⟨_, rfl, hown, hb⟩

end Go.Proofs.YtboommppikfgnaaDoor
