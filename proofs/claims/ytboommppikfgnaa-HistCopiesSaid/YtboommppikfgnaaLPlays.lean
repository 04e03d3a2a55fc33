/- The law HistPlays returns true, whatever the events.
   Conditions: none. -/
import Derived.Test.YtboommppikfgnaaHLawCalls
import Derived.Test.YtboommppikfgnaaHAwake
namespace Go.Proofs.Ytboommppikfgnaa
open Go Go.RowKit

theorem info_REv : (Try.prog.info? 38).map (fun i => (i.zero, i.size, i.bytes)) = some (some (.agg #[.int .i64 0, .bool false, .int .i64 0, .int .i64 0, .int .i64 0, .bool false, .int .i64 0]), 7, 56) := by kernel_rfl

theorem hist_pending_b (b : Nat) (s : HS) (B : Nat) (t : Int) (r : Bool) (hr : s.pend t = r) (w : World) (h : HAt w B b s) :
    Calls Try.prog 20 #[.pointer (some ⟨b, 0, none⟩), .int .i64 t] w fun e w' => e = .returned (.bool r) ∧ Below w.heap.size w w' :=
  (hist_pending b s B t w h).mono fun _ _ ⟨he, hw⟩ => ⟨by rw [he, hr], hw ▸ Below.refl _ _⟩
theorem ref_pending_b (A : Option Addr) (n c B : Nat) (t : Int) (evs : List Ev) (r : Bool) (hr : Pd evs t = r) (w : World) (hs : Sl w B 7 A n (evs.flatMap Ev.cells)) (hel : evs.length = n) (hn : n ≤ 1000) :
    Calls Try.prog 24 #[.slice A n c, .int .i64 t] w fun e w' => e = .returned (.bool r) ∧ Below w.heap.size w w' :=
  (ref_pending_is A n c B t evs w r hr hs hel hn).mono fun _ _ ⟨he, hw⟩ => ⟨he, hw ▸ Below.refl _ _⟩

set_option maxRecDepth 100000 in
set_option maxHeartbeats 3200000 in
theorem law_plays (A : Option Addr) (n c B0 : Nat) (evs : List Ev) (w : World) (hs : Sl w B0 7 A n (evs.flatMap Ev.cells)) (hel : evs.length = n) (hB0 : B0 ≤ w.heap.size) :
    Calls Try.prog 5 #[.slice A n c] w fun e w' => e = .returned (.bool true) ∧ Below w.heap.size w w' := by
  by_cases hbig : 60 < n
  · go_enter Try.func5, Try.ntmps5
    go_wp2_with fail
    refine (hawake _).mono ?_
    rintro e w1 ⟨rfl, h1⟩
    go_wp2_with fail
    go_ret
    exact ⟨rfl, h1⟩
  have hn60 : n ≤ 60 := by omega
  have hgt : decide ((60 : Int) < (n : Int)) = false := by simp; omega
  clear hbig
  obtain ⟨iE, hiE, zE, sE, bE⟩ := info_parts info_REv
  go_enter Try.func5, Try.ntmps5
  go_wp2_with fail
  refine (hawake _).mono ?_
  rintro e w1 ⟨rfl, h1⟩
  go_wp2_with fail
  refine (hist_new _).mono ?_
  rintro e w2 ⟨rfl, h2, k2⟩
  have hw1 := h1.size
  have hw2 := k2.size
  have hB2 : w1.heap.size ≤ w2.heap.size := hw2
  have b2 := h1.trans (k2.mono hw1)
  clear h1 k2
  generalize hBb : w1.heap.size = B at *
  clear hBb
  have HL := Lib.hid hel
  clear hel
  have hrun0 : HS.run (evs.take 0) = HS.new := rfl
  rw [← hrun0] at h2
  clear hrun0
  go_wp2_with fail
  go_loopw [16, 4] (fun i took wr => ∃ k : Nat, k ≤ n ∧ i = .int .i64 k ∧ HAt wr B B (HS.run (evs.take k)) ∧ wr.ownsRow B 38 7 took (HS.run (evs.take k)).evs.length ((HS.run (evs.take k)).evs.flatMap Ev.cells) ∧ Below w.heap.size w wr ∧ B ≤ wr.heap.size) (fun i _ _ => n - (intOf i).toNat)
  case atStart => exact ⟨0, by omega, rfl, h2, World.ownsRow_nil _ _ _ _, b2, hB2⟩
  case round =>
    obtain ⟨k, hk, rfl, hh, hown, hb, hBr⟩ := hrel
    have hrf : (HS.run (evs.take k)).Ref := HS.ref_run _
    have hlen : (HS.run (evs.take k)).evs.length ≤ 60 := by
      have h1 := HS.len_run (evs.take k)
      have h2 := List.length_take_le k evs
      omega
    by_cases hlt : k < n
    · have dk : decide ((k : Int) < (n : Int)) = true := by simp; omega
      obtain ⟨e, he⟩ : ∃ e, evs[k]? = some e := ⟨_, List.getElem?_eq_getElem (by rw [HL.out]; exact hlt)⟩
      have hstep : HS.run (evs.take (k + 1)) = (HS.run (evs.take k)).step e := by
        rw [List.take_add_one, he]; exact HS.run_snoc _ _
      have hsw := hs.below (hb.mono hB0)
      have hidx := hsw.idx (P := Try.prog) (c := c) Try.underlying29 evSz hlt
      obtain ⟨f0, f1, f2, f3, f4, f5, f6⟩ := ev_cells hsw hlt he
      have hbs := hb.size
      have HE := Lib.hid he
      clear he hsw
      obtain ⟨s, hsd⟩ : ∃ s, s = HS.run (evs.take k) := ⟨_, rfl⟩
      rw [← hsd] at hh hown hrf hlen hstep
      clear hsd
      obtain ⟨hrf', hevs'⟩ := HS.ref_step hrf e
      have herr := HS.ref_err hrf e
      have hre := fun (A : Option Addr) (c B : Nat) (w : World) hs hB => ref_error A s.evs.length c B e s.evs w hs hB rfl (by omega)
      have hbare := fun w : World => ref_bare e w
      obtain ⟨er, her⟩ : ∃ er, er = Er s.evs e := ⟨_, rfl⟩
      rw [← her] at hevs' herr hre
      clear her
      cases hen : e.ends with
      | true =>
        rw [hen] at f1 hre hbare
        have hst : s.step e = s.end_ e.th e.code e.ok e.val := by simp [HS.step, hen]
        rw [hst] at hstep hrf' hevs'
        have herr' : s.errE e.th = er := by rw [herr, hen]; rfl
        have hop := fun w h hB => hist_end B s B e.th e.code e.ok e.val w h hB (by omega)
        rw [herr'] at hop
        have HS1 := Lib.hid hstep
        have HEV := Lib.hid hevs'
        have hpd := hrf'.pd e.th
        clear hstep hst hen herr herr' hrf hevs'
        obtain ⟨s', hs'⟩ : ∃ s', s' = s.end_ e.th e.code e.ok e.val := ⟨_, rfl⟩
        rw [← hs'] at HS1 HEV hop hpd hrf'
        clear hs'
        go_upto_region 10 with (fail)
        clear f0 f1 f2 f3 f4 f5 f6 hidx
        have hx := Blk.new wr 38 #[.int .i64 e.th, .bool true, .int .i64 e.kind, .int .i64 e.key, .int .i64 e.code, .bool e.ok, .int .i64 e.val]
        have hb7 := (Below.refl wr.heap.size wr).alloc (Nat.le_refl _) (.cells #[.int .i64 e.th, .bool true, .int .i64 e.kind, .int .i64 e.key, .int .i64 e.code, .bool e.ok, .int .i64 e.val] 38)
        generalize (wr.alloc (.cells #[.int .i64 e.th, .bool true, .int .i64 e.kind, .int .i64 e.key, .int .i64 e.code, .bool e.ok, .int .i64 e.val] 38)) = W7 at *
        have hh7 := hh.step hb7
        have hown7 := own_step hown hb7
        have hXl := hx.lt
        have hoX : ∀ g, Value.ownBlock u4 = some g → g < wr.heap.size := fun g hg => by obtain ⟨_, cs, h'⟩ := own_at hown g hg; exact h'.lt
        have hb' := hb.trans (hb7.mono hbs)
        clear hh hown hb hb7
        generalize hX : wr.heap.size = X at *
        clear hX
        have cx := hx.cells
        go_wp2_with fail
        refine (hop _ hh7 (by omega)).mono ?_
        rintro e' w8 ⟨rfl, h8, k8⟩
        have hx8 := hx.kp k8 (by decide)
        have hown8 := own_kp hown7 k8 (by decide)
        have hb8 := hb'.trans (k8.below.mono hw1)
        have hw8 := k8.size
        clear hx hh7 hown7 hb' hop cx k8
        obtain ⟨A1, c1, rfl, -, -, -⟩ := own_form hown8
        have hsl8 := Sl.of_own hown8
        have cx8 := hx8.cells
        by_cases h0 : er = 0
        · subst h0
          have hev : s'.evs = s.evs ++ [bareE e] := HEV.out
          have HEV' := Lib.hid hev
          clear hev HEV
          go_wp2_with fail
          refine (hre A1 c1 _ w8 hsl8 (Nat.le_refl _)).mono ?_
          rintro e' w9 ⟨rfl, hb9⟩
          have hx9 := hx8.step hb9
          have hown9 := own_step hown8 hb9
          have hh9 := h8.step hb9
          have hb9' := hb8.trans (hb9.mono (by omega))
          have hw9 := hb9.size
          clear cx8 hx8 hown8 h8 hb9 hb8 hsl8 hre
          have cx := hx9.cells
          go_wp2_with fail
          refine (hbare _).mono ?_
          rintro e' w10 ⟨rfl, hb10⟩
          have hx10 := hx9.step hb10
          have hown10 := own_step hown9 hb10
          have hh10 := hh9.step hb10
          have hb10' := hb9'.trans (hb10.mono (by omega))
          have hw10 := hb10.size
          have hB10 : B ≤ w10.heap.size := by omega
          clear hx9 hown9 hh9 hb10 hb9' cx hbare
          have hown11 := hown10.alloc (.cells #[.int .i64 (bareE e).th, .bool (bareE e).ends, .int .i64 (bareE e).kind, .int .i64 (bareE e).key, .int .i64 (bareE e).code, .bool (bareE e).ok, .int .i64 (bareE e).val] 38)
          go_wp2_with (at_builtin; refine wpList_append_lies _ rfl _ _ _ rfl B 38 iE _ 7 56 Try.underlying29 hiE zE sE bE rfl (by omega) (.slice A1 s.evs.length c1) s.evs.length (s.evs.flatMap Ev.cells) rfl hown11 ⟨w10.heap.size, 0, none⟩ 1 1 (bareE e).cells rfl rfl (World.news_of_block (heap_alloc_new w10 _)) (Ev.cells_one _) (by omega) (by unfold maxLen; omega) (by omega) (by simp; omega) (w10.heap.size + 1) (by simp) ?_; intro g cap w11 hown12 hgrow hat hlt9)
          have kap : Kp B [38] w10 w11 := ((Kp.refl B [38] w10).alloc hB10 _).own hown11 (Nat.le_refl _) (by simp; omega) (by decide) hgrow
          have hh11 := hh10.kp kap (by decide) (by decide) (by decide)
          have hx11 := Blk.grown (hx10.alloc _) hgrow (fun h => by have := hoX _ h; omega)
          have hb11 := hb10'.trans (kap.below.mono hw1)
          have hown' : w11.ownsRow B 38 7 (.slice (some ⟨g, 0, none⟩) (s.evs.length + 1) cap) (s.evs.length + 1) (s'.evs.flatMap Ev.cells) := by rw [HEV'.out]; simpa using hown12
          have hel' : s'.evs.length = s.evs.length + 1 := by rw [HEV'.out]; simp
          have hw11 := kap.size
          clear hown12 hgrow hat hlt9 hown10 hown11 hh10 hx10 kap hoX
          have hsl11 := Sl.of_own hown'
          have qx := Later.cells hx11 hx11.lt
          refine wp_region_later w11.heap.size (by kernel_rfl) (by kernel_rfl) ?_
          repeat (go_big_quiet_step ((first | (go_at_call 20; exact Later.call (Nat.le_refl _) (hist_pending_b B s' B e.th _ hpd _ (hh11.step (Later.below _)))) | (go_at_call 24; exact Later.call (Nat.le_refl _) (ref_pending_b _ _ _ _ e.th s'.evs _ rfl _ (hsl11.step (Nat.le_refl _) (Later.below _)) hel' (by omega))))))
          refine wpQuiet_nil ?_
          intro w12 hq
          obtain ⟨q, hq⟩ := hq
          have hb12 : Below w11.heap.size w11 w12 := by rw [hq]; exact q.below
          clear hq q qx
          go_wp2_with fail
          have hw12 := hb12.size
          refine ⟨⟨k + 1, by omega, by go_num, ?_, ?_, hb11.trans (hb12.mono (by omega)), by omega⟩, ?_⟩
          · rw [HS1.out]; exact hh11.step hb12
          · rw [HS1.out, hel']; exact own_step hown' hb12
          · simp [intOf]; omega
        · have hb0 : (er == 0) = false := by simpa using h0
          have hb1 : (er != 0) = true := by simpa using h0
          have hev : s'.evs = s.evs := by rw [HEV.out, if_neg h0]
          have HEV' := Lib.hid hev
          clear hev HEV
          go_wp2_with fail
          refine (hre A1 c1 _ w8 hsl8 (Nat.le_refl _)).mono ?_
          rintro e' w11 ⟨rfl, hb9⟩
          have hx11 := hx8.step hb9
          have hown' : w11.ownsRow B 38 7 (.slice A1 s.evs.length c1) s.evs.length (s'.evs.flatMap Ev.cells) := by rw [HEV'.out]; exact own_step hown8 hb9
          have hh11 := h8.step hb9
          have hb11 := hb8.trans (hb9.mono (by omega))
          have hw11 := hb9.size
          have hel' : s'.evs.length = s.evs.length := by rw [HEV'.out]
          have hB10 : B ≤ w8.heap.size := by omega
          clear cx8 hx8 hown8 h8 hb9 hb8 hsl8 hre
          have cx := hx11.cells
          go_upto_region 18 with (fail)
          clear cx
          have hsl11 := Sl.of_own hown'
          have qx := Later.cells hx11 hx11.lt
          refine wp_region_later w11.heap.size (by kernel_rfl) (by kernel_rfl) ?_
          repeat (go_big_quiet_step ((first | (go_at_call 20; exact Later.call (Nat.le_refl _) (hist_pending_b B s' B e.th _ hpd _ (hh11.step (Later.below _)))) | (go_at_call 24; exact Later.call (Nat.le_refl _) (ref_pending_b _ _ _ _ e.th s'.evs _ rfl _ (hsl11.step (Nat.le_refl _) (Later.below _)) hel' (by omega))))))
          refine wpQuiet_nil ?_
          intro w12 hq
          obtain ⟨q, hq⟩ := hq
          have hb12 : Below w11.heap.size w11 w12 := by rw [hq]; exact q.below
          clear hq q qx
          go_wp2_with fail
          have hw12 := hb12.size
          refine ⟨⟨k + 1, by omega, by go_num, ?_, ?_, hb11.trans (hb12.mono (by omega)), by omega⟩, ?_⟩
          · rw [HS1.out]; exact hh11.step hb12
          · rw [HS1.out, hel']; exact own_step hown' hb12
          · simp [intOf]; omega
      | false =>
        rw [hen] at f1 hre hbare
        have hst : s.step e = s.begin_ e.th e.kind e.key := by simp [HS.step, hen]
        rw [hst] at hstep hrf' hevs'
        have herr' : s.errB e.th = er := by rw [herr, hen]; rfl
        have hop := fun w h hB => hist_begin B s B e.th e.kind e.key w h hB (by omega)
        rw [herr'] at hop
        have HS1 := Lib.hid hstep
        have HEV := Lib.hid hevs'
        have hpd := hrf'.pd e.th
        clear hstep hst hen herr herr' hrf hevs'
        obtain ⟨s', hs'⟩ : ∃ s', s' = s.begin_ e.th e.kind e.key := ⟨_, rfl⟩
        rw [← hs'] at HS1 HEV hop hpd hrf'
        clear hs'
        go_upto_region 10 with (fail)
        clear f0 f1 f2 f3 f4 f5 f6 hidx
        have hx := Blk.new wr 38 #[.int .i64 e.th, .bool false, .int .i64 e.kind, .int .i64 e.key, .int .i64 e.code, .bool e.ok, .int .i64 e.val]
        have hb7 := (Below.refl wr.heap.size wr).alloc (Nat.le_refl _) (.cells #[.int .i64 e.th, .bool false, .int .i64 e.kind, .int .i64 e.key, .int .i64 e.code, .bool e.ok, .int .i64 e.val] 38)
        generalize (wr.alloc (.cells #[.int .i64 e.th, .bool false, .int .i64 e.kind, .int .i64 e.key, .int .i64 e.code, .bool e.ok, .int .i64 e.val] 38)) = W7 at *
        have hh7 := hh.step hb7
        have hown7 := own_step hown hb7
        have hXl := hx.lt
        have hoX : ∀ g, Value.ownBlock u4 = some g → g < wr.heap.size := fun g hg => by obtain ⟨_, cs, h'⟩ := own_at hown g hg; exact h'.lt
        have hb' := hb.trans (hb7.mono hbs)
        clear hh hown hb hb7
        generalize hX : wr.heap.size = X at *
        clear hX
        have cx := hx.cells
        go_wp2_with fail
        refine (hop _ hh7 (by omega)).mono ?_
        rintro e' w8 ⟨rfl, h8, k8⟩
        have hx8 := hx.kp k8 (by decide)
        have hown8 := own_kp hown7 k8 (by decide)
        have hb8 := hb'.trans (k8.below.mono hw1)
        have hw8 := k8.size
        clear hx hh7 hown7 hb' hop cx k8
        obtain ⟨A1, c1, rfl, -, -, -⟩ := own_form hown8
        have hsl8 := Sl.of_own hown8
        have cx8 := hx8.cells
        by_cases h0 : er = 0
        · subst h0
          have hev : s'.evs = s.evs ++ [bareE e] := HEV.out
          have HEV' := Lib.hid hev
          clear hev HEV
          go_wp2_with fail
          refine (hre A1 c1 _ w8 hsl8 (Nat.le_refl _)).mono ?_
          rintro e' w9 ⟨rfl, hb9⟩
          have hx9 := hx8.step hb9
          have hown9 := own_step hown8 hb9
          have hh9 := h8.step hb9
          have hb9' := hb8.trans (hb9.mono (by omega))
          have hw9 := hb9.size
          clear cx8 hx8 hown8 h8 hb9 hb8 hsl8 hre
          have cx := hx9.cells
          go_wp2_with fail
          refine (hbare _).mono ?_
          rintro e' w10 ⟨rfl, hb10⟩
          have hx10 := hx9.step hb10
          have hown10 := own_step hown9 hb10
          have hh10 := hh9.step hb10
          have hb10' := hb9'.trans (hb10.mono (by omega))
          have hw10 := hb10.size
          have hB10 : B ≤ w10.heap.size := by omega
          clear hx9 hown9 hh9 hb10 hb9' cx hbare
          have hown11 := hown10.alloc (.cells #[.int .i64 (bareE e).th, .bool (bareE e).ends, .int .i64 (bareE e).kind, .int .i64 (bareE e).key, .int .i64 (bareE e).code, .bool (bareE e).ok, .int .i64 (bareE e).val] 38)
          go_wp2_with (at_builtin; refine wpList_append_lies _ rfl _ _ _ rfl B 38 iE _ 7 56 Try.underlying29 hiE zE sE bE rfl (by omega) (.slice A1 s.evs.length c1) s.evs.length (s.evs.flatMap Ev.cells) rfl hown11 ⟨w10.heap.size, 0, none⟩ 1 1 (bareE e).cells rfl rfl (World.news_of_block (heap_alloc_new w10 _)) (Ev.cells_one _) (by omega) (by unfold maxLen; omega) (by omega) (by simp; omega) (w10.heap.size + 1) (by simp) ?_; intro g cap w11 hown12 hgrow hat hlt9)
          have kap : Kp B [38] w10 w11 := ((Kp.refl B [38] w10).alloc hB10 _).own hown11 (Nat.le_refl _) (by simp; omega) (by decide) hgrow
          have hh11 := hh10.kp kap (by decide) (by decide) (by decide)
          have hx11 := Blk.grown (hx10.alloc _) hgrow (fun h => by have := hoX _ h; omega)
          have hb11 := hb10'.trans (kap.below.mono hw1)
          have hown' : w11.ownsRow B 38 7 (.slice (some ⟨g, 0, none⟩) (s.evs.length + 1) cap) (s.evs.length + 1) (s'.evs.flatMap Ev.cells) := by rw [HEV'.out]; simpa using hown12
          have hel' : s'.evs.length = s.evs.length + 1 := by rw [HEV'.out]; simp
          have hw11 := kap.size
          clear hown12 hgrow hat hlt9 hown10 hown11 hh10 hx10 kap hoX
          have hsl11 := Sl.of_own hown'
          have qx := Later.cells hx11 hx11.lt
          refine wp_region_later w11.heap.size (by kernel_rfl) (by kernel_rfl) ?_
          repeat (go_big_quiet_step ((first | (go_at_call 20; exact Later.call (Nat.le_refl _) (hist_pending_b B s' B e.th _ hpd _ (hh11.step (Later.below _)))) | (go_at_call 24; exact Later.call (Nat.le_refl _) (ref_pending_b _ _ _ _ e.th s'.evs _ rfl _ (hsl11.step (Nat.le_refl _) (Later.below _)) hel' (by omega))))))
          refine wpQuiet_nil ?_
          intro w12 hq
          obtain ⟨q, hq⟩ := hq
          have hb12 : Below w11.heap.size w11 w12 := by rw [hq]; exact q.below
          clear hq q qx
          go_wp2_with fail
          have hw12 := hb12.size
          refine ⟨⟨k + 1, by omega, by go_num, ?_, ?_, hb11.trans (hb12.mono (by omega)), by omega⟩, ?_⟩
          · rw [HS1.out]; exact hh11.step hb12
          · rw [HS1.out, hel']; exact own_step hown' hb12
          · simp [intOf]; omega
        · have hb0 : (er == 0) = false := by simpa using h0
          have hb1 : (er != 0) = true := by simpa using h0
          have hev : s'.evs = s.evs := by rw [HEV.out, if_neg h0]
          have HEV' := Lib.hid hev
          clear hev HEV
          go_wp2_with fail
          refine (hre A1 c1 _ w8 hsl8 (Nat.le_refl _)).mono ?_
          rintro e' w11 ⟨rfl, hb9⟩
          have hx11 := hx8.step hb9
          have hown' : w11.ownsRow B 38 7 (.slice A1 s.evs.length c1) s.evs.length (s'.evs.flatMap Ev.cells) := by rw [HEV'.out]; exact own_step hown8 hb9
          have hh11 := h8.step hb9
          have hb11 := hb8.trans (hb9.mono (by omega))
          have hw11 := hb9.size
          have hel' : s'.evs.length = s.evs.length := by rw [HEV'.out]
          have hB10 : B ≤ w8.heap.size := by omega
          clear cx8 hx8 hown8 h8 hb9 hb8 hsl8 hre
          have cx := hx11.cells
          go_upto_region 18 with (fail)
          clear cx
          have hsl11 := Sl.of_own hown'
          have qx := Later.cells hx11 hx11.lt
          refine wp_region_later w11.heap.size (by kernel_rfl) (by kernel_rfl) ?_
          repeat (go_big_quiet_step ((first | (go_at_call 20; exact Later.call (Nat.le_refl _) (hist_pending_b B s' B e.th _ hpd _ (hh11.step (Later.below _)))) | (go_at_call 24; exact Later.call (Nat.le_refl _) (ref_pending_b _ _ _ _ e.th s'.evs _ rfl _ (hsl11.step (Nat.le_refl _) (Later.below _)) hel' (by omega))))))
          refine wpQuiet_nil ?_
          intro w12 hq
          obtain ⟨q, hq⟩ := hq
          have hb12 : Below w11.heap.size w11 w12 := by rw [hq]; exact q.below
          clear hq q qx
          go_wp2_with fail
          have hw12 := hb12.size
          refine ⟨⟨k + 1, by omega, by go_num, ?_, ?_, hb11.trans (hb12.mono (by omega)), by omega⟩, ?_⟩
          · rw [HS1.out]; exact hh11.step hb12
          · rw [HS1.out, hel']; exact own_step hown' hb12
          · simp [intOf]; omega
    · have dk : decide ((k : Int) < (n : Int)) = false := by simp; omega
      generalize HS.run (evs.take k) = s at *
      obtain ⟨A1, c1, rfl, -, -, -⟩ := own_form hown
      have hsl := Sl.of_own hown
      have hbs := hb.size
      clear hs h2 b2
      go_wp2_with fail
      refine (law_same A1 B s B s.evs.length c1 wr.heap.size wr hh hsl (Nat.le_refl _) rfl (by omega)).mono ?_
      rintro e' w3 ⟨rfl, hb3⟩
      have hb3s := hb3.size
      have hh3 := hh.step hb3
      have hsl3 := hsl.step (Nat.le_refl _) hb3
      go_wp2_with fail
      refine (law_calls A1 B s B s.evs.length c1 wr.heap.size w3 hh3 hrf hsl3 hb3s rfl (by omega)).mono ?_
      rintro e' w4 ⟨rfl, hb4⟩
      go_wp2_with fail
      go_ret
      exact ⟨rfl, hb.trans ((hb3.mono hbs).trans (hb4.mono (by omega)))⟩

end Go.Proofs.Ytboommppikfgnaa
