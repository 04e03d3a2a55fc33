/- The law HistOf returns true, whatever the events.
   Conditions: none. -/
import Derived.Test.YtboommppikfgnaaLPlays
import Derived.Test.YtboommppikfgnaaHOf
namespace Go.Proofs.Ytboommppikfgnaa
open Go Go.RowKit

set_option maxRecDepth 100000 in
set_option maxHeartbeats 3200000 in
theorem law_of (A : Option Addr) (n c B0 : Nat) (evs : List Ev) (w : World) (hs : Sl w B0 7 A n (evs.flatMap Ev.cells)) (hel : evs.length = n) (hB0 : B0 ≤ w.heap.size) :
    Calls Try.prog 7 #[.slice A n c] w fun e w' => e = .returned (.bool true) ∧ Below w.heap.size w w' := by
  by_cases hbig : 60 < n
  · go_enter Try.func7, Try.ntmps7
    go_wp2_with fail
    refine (hawake _).mono ?_
    rintro e w1 ⟨rfl, h1⟩
    go_wp2_with fail
    go_ret
    exact ⟨rfl, h1⟩
  have hn60 : n ≤ 60 := by omega
  have hgt : decide ((60 : Int) < (n : Int)) = false := by simp; omega
  clear hbig
  obtain ⟨iE, hiE, zE, sE, bE⟩ := info_parts info_REv
  obtain ⟨iF, hiF, zF, sF, bF⟩ := info_parts info_Event
  go_enter Try.func7, Try.ntmps7
  go_wp2_with fail
  refine (hawake _).mono ?_
  rintro e w1 ⟨rfl, h1⟩
  have hw1 := h1.size
  generalize hBb : w1.heap.size = B at *
  have HL := Lib.hid hel
  clear hel
  go_wp2_with fail
  go_loopw [17, 3, 4, 5] (fun i asked legal first wr => ∃ (k : Nat) (lg : List Ev) (fk : Int), k ≤ n ∧ i = .int .i64 k ∧ first = .int .i64 fk ∧ fk = ofTo evs k ∧ lg.length ≤ k ∧ (fk = 0 → lg = (HS.run (evs.take k)).evs) ∧ wr.ownsRow B 54 7 asked k ((evs.take k).flatMap Ev.cells) ∧ wr.ownsRow B 38 7 legal lg.length (lg.flatMap Ev.cells) ∧ Below w.heap.size w wr ∧ B ≤ wr.heap.size) (fun i _ _ _ _ => n - (intOf i).toNat)
  case atStart => exact ⟨0, [], 0, by omega, rfl, rfl, rfl, Nat.le_refl _, fun _ => rfl, World.ownsRow_nil _ _ _ _, World.ownsRow_nil _ _ _ _, h1, by omega⟩
  case round =>
    obtain ⟨k, lg, fk, hk, rfl, rfl, hfk, hll, hlg, hask, hleg, hb, hBr⟩ := hrel
    by_cases hlt : k < n
    · have dk : decide ((k : Int) < (n : Int)) = true := by simp; omega
      obtain ⟨e, he⟩ : ∃ e, evs[k]? = some e := ⟨_, List.getElem?_eq_getElem (by rw [HL.out]; exact hlt)⟩
      have htk : evs.take (k + 1) = evs.take k ++ [e] := by rw [List.take_add_one, he]; rfl
      have hstep : HS.run (evs.take (k + 1)) = (HS.run (evs.take k)).step e := by
        rw [htk]; exact HS.run_snoc _ _
      have hbs := hb.size
      have hsw := hs.below (hb.mono hB0)
      have hidx := hsw.idx (P := Try.prog) (c := c) Try.underlying29 evSz hlt
      obtain ⟨f0, f1, f2, f3, f4, f5, f6⟩ := ev_cells hsw hlt he
      have HE := Lib.hid he
      have HTK := Lib.hid htk
      have HST := Lib.hid hstep
      have HLG := Lib.hid hlg
      have HFK := Lib.hid hfk
      clear he hsw htk hstep hlg hfk
      go_upto_region 11 with (fail)
      clear f0 f1 f2 f3 f4 f5 f6 hidx
      have hx := Blk.new wr 38 #[.int .i64 e.th, .bool e.ends, .int .i64 e.kind, .int .i64 e.key, .int .i64 e.code, .bool e.ok, .int .i64 e.val]
      have hb7 := (Below.refl wr.heap.size wr).alloc (Nat.le_refl _) (.cells #[.int .i64 e.th, .bool e.ends, .int .i64 e.kind, .int .i64 e.key, .int .i64 e.code, .bool e.ok, .int .i64 e.val] 38)
      generalize (wr.alloc (.cells #[.int .i64 e.th, .bool e.ends, .int .i64 e.kind, .int .i64 e.key, .int .i64 e.code, .bool e.ok, .int .i64 e.val] 38)) = W7 at *
      have hask7 := own_step hask hb7
      have hleg7 := own_step hleg hb7
      have hXl := hx.lt
      have hoX : ∀ g, Value.ownBlock u4 = some g → g < wr.heap.size := fun g hg => by obtain ⟨_, cs, h'⟩ := own_at hleg g hg; exact h'.lt
      have hb' := hb.trans (hb7.mono hbs)
      clear hask hleg hb hb7
      generalize hX : wr.heap.size = X at *
      clear hX
      have cx := hx.cells
      have hB7 : B ≤ W7.heap.size := by omega
      have hask8 := hask7.alloc (.cells #[.int .i64 e.th, .bool e.ends, .int .i64 e.kind, .int .i64 e.key, .int .i64 e.code, .bool e.ok, .int .i64 e.val] 54)
      obtain ⟨A1, c1, rfl, -, -, -⟩ := own_form hleg7
      go_upto_region 12 with (at_builtin; refine wpList_append_lies _ rfl _ _ _ rfl B 54 iF _ 7 56 Try.underlying52 hiF zF sF bF rfl (by omega) _ k ((evs.take k).flatMap Ev.cells) rfl hask8 ⟨W7.heap.size, 0, none⟩ 1 1 e.cells rfl rfl (World.news_of_block (heap_alloc_new W7 _)) (Ev.cells_one _) (by omega) (by unfold maxLen; omega) (by omega) (by simp; omega) (W7.heap.size + 1) (by simp) ?_; intro g cap w11 hown12 hgrow hat hlt9)
      have kap : Kp B [54] W7 w11 := ((Kp.refl B [54] W7).alloc hB7 _).own hask8 (Nat.le_refl _) (by simp; omega) (by decide) hgrow
      have hx11 := hx.kp kap (by decide)
      have hleg11 := own_kp hleg7 kap (by decide)
      have hask11 : w11.ownsRow B 54 7 (.slice (some ⟨g, 0, none⟩) (k + 1) cap) (k + 1) ((evs.take (k + 1)).flatMap Ev.cells) := by rw [HTK.out]; simpa using hown12
      have hb11 := hb'.trans (kap.below.mono hw1)
      have hw11 := kap.size
      have hX11 := hx11.lt
      have hB11 : B ≤ w11.heap.size := by omega
      clear kap hgrow hat hown12 hask8 hask7 hleg7 hx cx hlt9 hb'
      have cx := hx11.cells
      by_cases h0 : fk = 0
      · subst h0
        have hsl := Sl.of_own hleg11
        have hof : ofTo evs (k + 1) = Er lg e := by rw [ofTo_step HE.out HFK.out.symm, ← HLG.out rfl]
        have HOF := Lib.hid hof
        clear hof
        go_wp2_with fail
        refine (ref_error A1 lg.length c1 _ e lg w11 hsl (Nat.le_refl _) rfl (by omega)).mono ?_
        rintro e' w12 ⟨rfl, hb12⟩
        obtain ⟨er, her⟩ : ∃ er, er = Er lg e := ⟨_, rfl⟩
        rw [← her]
        rw [← her] at HOF
        have HER := Lib.hid her
        clear her
        have hx12 := hx11.step hb12
        have hask12 := own_step hask11 hb12
        have hleg12 := own_step hleg11 hb12
        have hb12' := hb11.trans (hb12.mono (by omega))
        have hw12 := hb12.size
        clear hx11 hask11 hleg11 hb11 hb12 hsl cx
        have cx := hx12.cells
        go_wp2_with fail
        refine (ref_bare e _).mono ?_
        rintro e' w13 ⟨rfl, hb13⟩
        have hask13 := own_step hask12 hb13
        have hleg13 := own_step hleg12 hb13
        have hb13' := hb12'.trans (hb13.mono (by omega))
        have hw13 := hb13.size
        have hB13 : B ≤ w13.heap.size := by omega
        clear hx12 hask12 hleg12 hb12' hb13 cx
        have hleg14 := hleg13.alloc (.cells #[.int .i64 (bareE e).th, .bool (bareE e).ends, .int .i64 (bareE e).kind, .int .i64 (bareE e).key, .int .i64 (bareE e).code, .bool (bareE e).ok, .int .i64 (bareE e).val] 38)
        go_wp2_with (at_builtin; refine wpList_append_lies _ rfl _ _ _ rfl B 38 iE _ 7 56 Try.underlying29 hiE zE sE bE rfl (by omega) _ lg.length (lg.flatMap Ev.cells) rfl hleg14 ⟨w13.heap.size, 0, none⟩ 1 1 (bareE e).cells rfl rfl (World.news_of_block (heap_alloc_new w13 _)) (Ev.cells_one _) (by omega) (by unfold maxLen; omega) (by omega) (by simp; omega) (w13.heap.size + 1) (by simp) ?_; intro g2 cap2 w14 hown15 hgrow hat hlt15)
        have kap : Kp B [38] w13 w14 := ((Kp.refl B [38] w13).alloc hB13 _).own hleg14 (Nat.le_refl _) (by simp; omega) (by decide) hgrow
        have hask14 := own_kp hask13 kap (by decide)
        have hw14 := kap.size
        refine ⟨⟨k + 1, lg ++ [bareE e], er, by omega, by go_num, rfl, HOF.out.symm, by simp; omega, ?_, hask14, by simpa using hown15, hb13'.trans (kap.below.mono hw1), by omega⟩, ?_⟩
        · intro h
          have h1 := (HS.ref_step (HS.ref_run (evs.take k)) e).2
          rw [← HLG.out (by first | rfl | trivial), ← HER.out, if_pos h] at h1
          rw [HST.out, h1]
        · simp [intOf]; omega
      · have hb0 : (fk == 0) = false := by simpa using h0
        go_wp2_with fail
        refine ⟨⟨k + 1, lg, fk, by omega, by go_num, rfl, ?_, by omega, fun h => absurd h h0, hask11, hleg11, hb11, by omega⟩, ?_⟩
        · rw [ofTo_stay (k := k) (by rw [← HFK.out]; exact h0) 1]; exact HFK.out
        · simp [intOf]; omega
    · have dk : decide ((k : Int) < (n : Int)) = false := by simp; omega
      obtain rfl : k = n := by omega
      rw [List.take_of_length_le (by rw [HL.out]; exact Nat.le_refl _)] at hask hlg
      obtain ⟨A1, c1, rfl, -, -, -⟩ := own_form hask
      obtain ⟨A2, c2, rfl, -, -, -⟩ := own_form hleg
      have hsl1 := Sl.of_own hask
      have hsl2 := Sl.of_own hleg
      have hbs := hb.size
      have hoff := hist_of A1 k c1 wr.heap.size evs wr hsl1 HL.out (Nat.le_refl _) (by omega)
      rw [← hfk] at hoff
      clear hs hask hleg
      by_cases h0 : fk = 0
      · subst h0
        have HLG := Lib.hid (hlg rfl)
        clear hlg hfk
        go_wp2_with fail
        refine hoff.mono ?_
        rintro e' w3 ⟨(⟨h, -⟩ | ⟨-, rfl, hh⟩), hb3⟩
        · exact absurd rfl h
        have hb3s := hb3.size
        have hsl3 : Sl w3 wr.heap.size 7 A2 lg.length ((HS.run evs).evs.flatMap Ev.cells) := by rw [← HLG.out]; exact hsl2.step (Nat.le_refl _) hb3
        have hle : (HS.run evs).evs.length = lg.length := by rw [HLG.out]
        go_wp2_with fail
        refine (law_same A2 wr.heap.size (HS.run evs) wr.heap.size lg.length c2 wr.heap.size w3 hh hsl3 hb3s hle (by omega)).mono ?_
        rintro e' w4 ⟨rfl, hb4⟩
        have hb4s := hb4.size
        have hh4 := hh.step hb4
        have hsl4 := hsl3.step hb3s hb4
        go_wp2_with fail
        refine (law_calls A2 wr.heap.size (HS.run evs) wr.heap.size lg.length c2 wr.heap.size w4 hh4 (HS.ref_run evs) hsl4 (by omega) hle (by omega)).mono ?_
        rintro e' w5 ⟨rfl, hb5⟩
        go_wp2_with fail
        go_ret
        exact ⟨rfl, hb.trans ((hb3.mono hbs).trans ((hb4.mono (by omega)).trans (hb5.mono (by omega))))⟩
      · have hb0 : (fk == 0) = false := by simpa using h0
        have hb1 : (fk != 0) = true := by simpa using h0
        clear hlg hfk
        go_wp2_with fail
        refine hoff.mono ?_
        rintro e' w3 ⟨(⟨-, rfl⟩ | ⟨h, -⟩), hb3⟩
        · go_wp2_with fail
          go_ret
          exact ⟨rfl, hb.trans (hb3.mono hbs)⟩
        · exact absurd h h0

end Go.Proofs.Ytboommppikfgnaa
