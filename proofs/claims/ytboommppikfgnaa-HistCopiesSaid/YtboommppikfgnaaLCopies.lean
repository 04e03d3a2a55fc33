/- The law HistCopies returns true, whatever the events and the later events.
   Conditions: none. -/
import Derived.Test.YtboommppikfgnaaLPlays
import Derived.Test.YtboommppikfgnaaHCopy
namespace Go.Proofs.Ytboommppikfgnaa
open Go Go.RowKit

theorem HS.step_err {s : HS} (r : s.Ref) (e : Ev) (h : Er s.evs e ≠ 0) : s.step e = s := by
  rw [HS.ref_err r e] at h
  unfold HS.step
  split
  · rename_i he; rw [if_pos he] at h; unfold HS.end_; rw [if_neg h]
  · rename_i he; rw [if_neg he] at h; unfold HS.begin_; rw [if_neg h]
theorem len_foldl (l : List Ev) : ∀ s : HS, (l.foldl HS.step s).evs.length ≤ s.evs.length + l.length := by
  induction l with
  | nil => intro s; simp
  | cons e l ih => intro s; have h1 := ih (s.step e); have h2 := HS.len_step s e; simp only [List.foldl_cons, List.length_cons]; omega

set_option maxRecDepth 100000 in
set_option maxHeartbeats 6400000 in
theorem law_copies (A : Option Addr) (n c : Nat) (A' : Option Addr) (n' c' B0 : Nat) (evs evs' : List Ev) (w : World) (hs : Sl w B0 7 A n (evs.flatMap Ev.cells)) (hs' : Sl w B0 7 A' n' (evs'.flatMap Ev.cells)) (hel : evs.length = n) (hel' : evs'.length = n') (hB0 : B0 ≤ w.heap.size) :
    Calls Try.prog 6 #[.slice A n c, .slice A' n' c'] w fun e w' => e = .returned (.bool true) ∧ Below w.heap.size w w' := by
  by_cases hbig : 60 < n
  · go_enter Try.func6, Try.ntmps6
    go_wp2_with fail
    refine (hawake _).mono ?_
    rintro e w1 ⟨rfl, h1⟩
    go_wp2_with fail
    go_ret
    exact ⟨rfl, h1⟩
  have hn60 : n ≤ 60 := by omega
  have hgt : decide ((60 : Int) < (n : Int)) = false := by simp; omega
  clear hbig
  by_cases hbig : 60 < n'
  · have hgt' : decide ((60 : Int) < (n' : Int)) = true := by simp; omega
    go_enter Try.func6, Try.ntmps6
    go_wp2_with fail
    refine (hawake _).mono ?_
    rintro e w1 ⟨rfl, h1⟩
    go_wp2_with fail
    go_ret
    exact ⟨rfl, h1⟩
  have hn60' : n' ≤ 60 := by omega
  have hgt' : decide ((60 : Int) < (n' : Int)) = false := by simp; omega
  clear hbig
  obtain ⟨iE, hiE, zE, sE, bE⟩ := info_parts info_REv
  have HL := Lib.hid hel
  have HL' := Lib.hid hel'
  clear hel hel'
  go_enter Try.func6, Try.ntmps6
  go_wp2_with fail
  refine (hawake _).mono ?_
  rintro e w1 ⟨rfl, h1⟩
  go_wp2_with fail
  refine (hist_new _).mono ?_
  rintro e w2 ⟨rfl, h2, k2⟩
  have hw1 := h1.size
  have hw2 := k2.size
  have hB2 : w1.heap.size ≤ w2.heap.size := hw2
  have b2 := h1.trans (k2.mono hw1)
  clear h1 k2
  generalize hBb : w1.heap.size = B at *
  clear hBb
  go_wp2_with fail
  go_loopw [30, 6] (fun i took wr => ∃ k : Nat, k ≤ n ∧ i = .int .i64 k ∧ HAt wr B B ((evs.take k).foldl HS.step HS.new) ∧ wr.ownsRow B 38 7 took ((evs.take k).foldl HS.step HS.new).evs.length (((evs.take k).foldl HS.step HS.new).evs.flatMap Ev.cells) ∧ Below w.heap.size w wr ∧ B ≤ wr.heap.size) (fun i _ _ => n - (intOf i).toNat)
  case atStart => exact ⟨0, by omega, rfl, h2, World.ownsRow_nil _ _ _ _, b2, hB2⟩
  case round =>
    obtain ⟨k, hk, rfl, hh, hown, hb, hBr⟩ := hrel
    have hrf : ((evs.take k).foldl HS.step HS.new).Ref := HS.ref_foldl _ _ HS.ref_new
    have hlen : ((evs.take k).foldl HS.step HS.new).evs.length ≤ 120 := by
      have h1 := len_foldl (evs.take k) HS.new
      have h2 := List.length_take_le k evs
      have h3 : HS.new.evs.length = 0 := rfl
      omega
    by_cases hlt : k < n
    · have dk : decide ((k : Int) < (n : Int)) = true := by simp; omega
      obtain ⟨e, he⟩ : ∃ e, evs[k]? = some e := ⟨_, List.getElem?_eq_getElem (by rw [HL.out]; exact hlt)⟩
      have hstep : (evs.take (k + 1)).foldl HS.step HS.new = ((evs.take k).foldl HS.step HS.new).step e := by
        rw [List.take_add_one, he, List.foldl_append]; rfl
      have hsw := hs.below (hb.mono hB0)
      have hidx := hsw.idx (P := Try.prog) (c := c) Try.underlying29 evSz hlt
      obtain ⟨f0, f1, f2, f3, f4, f5, f6⟩ := ev_cells hsw hlt he
      have hbs := hb.size
      clear he hsw
      obtain ⟨s, hsd⟩ : ∃ s, s = (evs.take k).foldl HS.step HS.new := ⟨_, rfl⟩
      rw [← hsd] at hh hown hrf hlen hstep
      clear hsd
      have hevs' := (HS.ref_step hrf e).2
      have hserr := HS.step_err hrf e
      have hre := fun (A : Option Addr) (c B : Nat) (w : World) hs hB => ref_error A s.evs.length c B e s.evs w hs hB rfl (by omega)
      have hbare := fun w : World => ref_bare e w
      obtain ⟨er, her⟩ : ∃ er, er = Er s.evs e := ⟨_, rfl⟩
      rw [← her] at hevs' hre hserr
      have HS1 := Lib.hid hstep
      have HEV := Lib.hid hevs'
      have HSE := Lib.hid hserr
      clear her hstep hevs' hserr hrf
      go_upto_region 10 with (fail)
      clear f0 f1 f2 f3 f4 f5 f6 hidx
      have hx := Blk.new wr 38 #[.int .i64 e.th, .bool e.ends, .int .i64 e.kind, .int .i64 e.key, .int .i64 e.code, .bool e.ok, .int .i64 e.val]
      have hb7 := (Below.refl wr.heap.size wr).alloc (Nat.le_refl _) (.cells #[.int .i64 e.th, .bool e.ends, .int .i64 e.kind, .int .i64 e.key, .int .i64 e.code, .bool e.ok, .int .i64 e.val] 38)
      generalize (wr.alloc (.cells #[.int .i64 e.th, .bool e.ends, .int .i64 e.kind, .int .i64 e.key, .int .i64 e.code, .bool e.ok, .int .i64 e.val] 38)) = W7 at *
      have hh7 := hh.step hb7
      have hown7 := own_step hown hb7
      have hXl := hx.lt
      obtain ⟨A1, c1, rfl, -, -, -⟩ := own_form hown7
      have hoX : ∀ g, Value.ownBlock (.slice A1 s.evs.length c1) = some g → g < wr.heap.size := fun g hg => by obtain ⟨_, cs, h'⟩ := own_at hown g hg; exact h'.lt
      have hb' := hb.trans (hb7.mono hbs)
      clear hh hown hb hb7
      generalize hX : wr.heap.size = X at *
      clear hX
      have hsl7 := Sl.of_own hown7
      have cx := hx.cells
      go_wp2_with fail
      refine (hre A1 c1 _ W7 hsl7 (Nat.le_refl _)).mono ?_
      rintro e' w9 ⟨rfl, hb9⟩
      have hx9 := hx.step hb9
      have hown9 := own_step hown7 hb9
      have hh9 := hh7.step hb9
      have hb9' := hb'.trans (hb9.mono (by omega))
      have hw9 := hb9.size
      clear hx hown7 hh7 hb9 hb' hsl7 hre cx
      have cx := hx9.cells
      by_cases h0 : er = 0
      · subst h0
        have hev : (s.step e).evs = s.evs ++ [bareE e] := HEV.out
        have HEV' := Lib.hid hev
        clear hev HEV HSE
        go_wp2_with fail
        refine (hbare _).mono ?_
        rintro e' w10 ⟨rfl, hb10⟩
        have hx10 := hx9.step hb10
        have hown10 := own_step hown9 hb10
        have hh10 := hh9.step hb10
        have hb10' := hb9'.trans (hb10.mono (by omega))
        have hw10 := hb10.size
        have hB10 : B ≤ w10.heap.size := by omega
        clear hx9 hown9 hh9 hb10 hb9' cx hbare
        have hown11 := hown10.alloc (.cells #[.int .i64 (bareE e).th, .bool (bareE e).ends, .int .i64 (bareE e).kind, .int .i64 (bareE e).key, .int .i64 (bareE e).code, .bool (bareE e).ok, .int .i64 (bareE e).val] 38)
        go_upto_region 12 with (at_builtin; refine wpList_append_lies _ rfl _ _ _ rfl B 38 iE _ 7 56 Try.underlying29 hiE zE sE bE rfl (by omega) (.slice A1 s.evs.length c1) s.evs.length (s.evs.flatMap Ev.cells) rfl hown11 ⟨w10.heap.size, 0, none⟩ 1 1 (bareE e).cells rfl rfl (World.news_of_block (heap_alloc_new w10 _)) (Ev.cells_one _) (by omega) (by unfold maxLen; omega) (by omega) (by simp; omega) (w10.heap.size + 1) (by simp) ?_; intro g cap w11 hown12 hgrow hat hlt9)
        have kap : Kp B [38] w10 w11 := ((Kp.refl B [38] w10).alloc hB10 _).own hown11 (Nat.le_refl _) (by simp; omega) (by decide) hgrow
        have hh11 := hh10.kp kap (by decide) (by decide) (by decide)
        have hx11 := Blk.grown (hx10.alloc _) hgrow (fun h => by have := hoX _ h; omega)
        have hb11 := hb10'.trans (kap.below.mono hw1)
        have hown' : w11.ownsRow B 38 7 (.slice (some ⟨g, 0, none⟩) (s.evs.length + 1) cap) (s.step e).evs.length ((s.step e).evs.flatMap Ev.cells) := by rw [HEV'.out]; simpa using hown12
        have hw11 := kap.size
        have hB11 : B ≤ w11.heap.size := by omega
        clear hown12 hgrow hat hlt9 hown10 hown11 hh10 hx10 kap hoX
        have cx := hx11.cells
        cases hen : e.ends with
        | true =>
          have hst : s.step e = s.end_ e.th e.code e.ok e.val := by simp [HS.step, hen]
          rw [hst] at HS1 hown'
          rw [hen] at cx
          clear hst hen HEV' hx11
          go_wp2_with fail
          refine (hist_end B s B e.th e.code e.ok e.val w11 hh11 hB11 (by omega)).mono ?_
          rintro e' w12 ⟨rfl, h12, k12⟩
          have hw12 := k12.size
          go_wp2_with fail
          refine ⟨⟨k + 1, by omega, by go_num, ?_, ?_, hb11.trans (k12.below.mono hw1), by omega⟩, ?_⟩
          · rw [HS1.out]; exact h12
          · rw [HS1.out]; exact own_kp hown' k12 (by decide)
          · simp [intOf]; omega
        | false =>
          have hst : s.step e = s.begin_ e.th e.kind e.key := by simp [HS.step, hen]
          rw [hst] at HS1 hown'
          rw [hen] at cx
          clear hst hen HEV' hx11
          go_wp2_with fail
          refine (hist_begin B s B e.th e.kind e.key w11 hh11 hB11 (by omega)).mono ?_
          rintro e' w12 ⟨rfl, h12, k12⟩
          have hw12 := k12.size
          go_wp2_with fail
          refine ⟨⟨k + 1, by omega, by go_num, ?_, ?_, hb11.trans (k12.below.mono hw1), by omega⟩, ?_⟩
          · rw [HS1.out]; exact h12
          · rw [HS1.out]; exact own_kp hown' k12 (by decide)
          · simp [intOf]; omega
      · have hb0 : (er == 0) = false := by simpa using h0
        have hb1 : (er != 0) = true := by simpa using h0
        go_wp2_with fail
        have hse := HSE.out h0
        refine ⟨⟨k + 1, by omega, by go_num, ?_, ?_, hb9', by omega⟩, ?_⟩
        · rw [HS1.out, hse]; exact hh9
        · rw [HS1.out, hse]; exact hown9
        · simp [intOf]; omega
    · have dk : decide ((k : Int) < (n : Int)) = false := by simp; omega
      rw [List.take_of_length_le (by rw [HL.out]; omega)] at hh hown hrf hlen
      have hkn : k = n := by omega
      subst hkn
      have hbs0 := hb.size
      generalize evs.foldl HS.step HS.new = s1 at *
      obtain ⟨hrf1, hlen1⟩ := And.intro hrf hlen
      clear hrf hlen h2 b2 hs hB2 hw2
      generalize wr = Wc at *
      have hbc := hb
      obtain ⟨A1, c1, rfl, -, -, -⟩ := own_form hown
      have hsl := Sl.of_own hown
      have ht1 := hown
      have hh1 := hh
      clear hh hown hb
      go_wp2_with fail
      refine (hist_copy B s1 B Wc hh1 (by omega)).mono ?_
      rintro e' w3 ⟨b', rfl, hc3, hb3⟩
      have hs3 := hb3.size
      have hsl3 := hsl.step (Nat.le_refl _) hb3
      go_wp2_with fail
      refine (law_same A1 b' s1 Wc.heap.size s1.evs.length c1 Wc.heap.size w3 hc3 hsl3 hs3 rfl (by omega)).mono ?_
      rintro e' w4 ⟨rfl, hb4⟩
      have hs4 := hb4.size
      have hc4 := hc3.step hb4
      have hsl4 := hsl3.step hs3 hb4
      have hB4 := hb3.trans (hb4.mono hs3)
      clear hc3 hb3 hb4
      go_wp2_with fail
      refine (law_calls A1 b' s1 Wc.heap.size s1.evs.length c1 Wc.heap.size w4 hc4 hrf1 hsl4 (by omega) rfl (by omega)).mono ?_
      rintro e' w5 ⟨rfl, hb5⟩
      have hs5 := hb5.size
      have hc5 := hc4.step hb5
      have hsl5 := hsl4.step (by omega) hb5
      have hB5 := hB4.trans (hb5.mono (by omega))
      clear hc4 hB4 hb5 hsl3 hsl4
      have ho := own_mono (own_zero w5 38 7 (Nat.le_refl _) rfl) (show Wc.heap.size ≤ w5.heap.size by omega)
      have hslz : Sl (w5.alloc (.cells #[] 38)) Wc.heap.size 7 A1 s1.evs.length (s1.evs.flatMap Ev.cells) := hsl5.step (by omega) ((Below.refl _ _).alloc (Nat.le_refl _) _)
      have hone := flat_one Ev.cells Ev.cells_one s1.evs
      go_upto_region 20 with (at_builtin; refine wpList_append_sl _ rfl _ _ _ rfl Wc.heap.size 38 iE _ 7 56 Try.underlying29 hiE zE sE bE rfl (by omega) (.slice (some ⟨w5.heap.size, 0, none⟩) 0 0) 0 [] rfl ho Wc.heap.size A1 s1.evs.length c1 (s1.evs.flatMap Ev.cells) rfl hslz hone (by unfold maxLen; omega) (by omega) (by simp; omega) ?_; intro v1 w6 hown1 hg1 hat1)
      have hB6 := ((hB5.alloc (by omega) (.cells #[] 38)).grown hg1 (by simp; omega) (by simp [Value.ownBlock]; omega))
      have kap : Kp Wc.heap.size [38] w5 w6 := ((Kp.refl Wc.heap.size [38] w5).alloc (by omega) _).own ho (Nat.le_refl _) (by simp; omega) (by decide) hg1
      have hc6 := hc5.kp kap (by decide) (by decide) (by decide)
      have hown6 : w6.ownsRow Wc.heap.size 38 7 v1 s1.evs.length (s1.evs.flatMap Ev.cells) := by simpa using hown1
      clear kap hown1 hg1 hat1 ho hslz hone hc5 hsl5 hB5 hk hlt dk
      go_wp2_with fail
      go_loopw [79, 10] (fun i took wr => ∃ k : Nat, k ≤ n' ∧ i = .int .i64 k ∧ HAt wr Wc.heap.size b' ((evs'.take k).foldl HS.step s1) ∧ wr.ownsRow Wc.heap.size 38 7 took ((evs'.take k).foldl HS.step s1).evs.length (((evs'.take k).foldl HS.step s1).evs.flatMap Ev.cells) ∧ Below Wc.heap.size Wc wr ∧ Wc.heap.size ≤ wr.heap.size) (fun i _ _ => n' - (intOf i).toNat)
      case atStart => exact ⟨0, by omega, rfl, hc6, hown6, hB6, hB6.size⟩
      case round =>
        obtain ⟨k, hk, rfl, hh, hown, hb, hBr⟩ := hrel
        have hrf : ((evs'.take k).foldl HS.step s1).Ref := HS.ref_foldl _ _ hrf1
        have hlen : ((evs'.take k).foldl HS.step s1).evs.length ≤ 200 := by
          have h1 := len_foldl (evs'.take k) s1
          have h2 := List.length_take_le k evs'
          have h3 := hlen1
          omega
        by_cases hlt : k < n'
        · have dk : decide ((k : Int) < (n' : Int)) = true := by simp; omega
          obtain ⟨e, he⟩ : ∃ e, evs'[k]? = some e := ⟨_, List.getElem?_eq_getElem (by rw [HL'.out]; exact hlt)⟩
          have hstep : (evs'.take (k + 1)).foldl HS.step s1 = ((evs'.take k).foldl HS.step s1).step e := by
            rw [List.take_add_one, he, List.foldl_append]; rfl
          have hsw := (hs'.below (hbc.mono hB0)).below (hb.mono (by omega))
          have hidx := hsw.idx (P := Try.prog) (c := c') Try.underlying29 evSz hlt
          obtain ⟨f0, f1, f2, f3, f4, f5, f6⟩ := ev_cells hsw hlt he
          have hbs := hb.size
          clear he hsw
          obtain ⟨s, hsd⟩ : ∃ s, s = (evs'.take k).foldl HS.step s1 := ⟨_, rfl⟩
          rw [← hsd] at hh hown hrf hlen hstep
          clear hsd
          have hevs' := (HS.ref_step hrf e).2
          have hserr := HS.step_err hrf e
          have hre := fun (A : Option Addr) (c B : Nat) (w : World) hs hB => ref_error A s.evs.length c B e s.evs w hs hB rfl (by omega)
          have hbare := fun w : World => ref_bare e w
          obtain ⟨er, her⟩ : ∃ er, er = Er s.evs e := ⟨_, rfl⟩
          rw [← her] at hevs' hre hserr
          have HS1 := Lib.hid hstep
          have HEV := Lib.hid hevs'
          have HSE := Lib.hid hserr
          clear her hstep hevs' hserr hrf
          go_upto_region 23 with (fail)
          clear f0 f1 f2 f3 f4 f5 f6 hidx
          have hx := Blk.new wr 38 #[.int .i64 e.th, .bool e.ends, .int .i64 e.kind, .int .i64 e.key, .int .i64 e.code, .bool e.ok, .int .i64 e.val]
          have hb7 := (Below.refl wr.heap.size wr).alloc (Nat.le_refl _) (.cells #[.int .i64 e.th, .bool e.ends, .int .i64 e.kind, .int .i64 e.key, .int .i64 e.code, .bool e.ok, .int .i64 e.val] 38)
          generalize (wr.alloc (.cells #[.int .i64 e.th, .bool e.ends, .int .i64 e.kind, .int .i64 e.key, .int .i64 e.code, .bool e.ok, .int .i64 e.val] 38)) = W7 at *
          have hh7 := hh.step hb7
          have hown7 := own_step hown hb7
          have hXl := hx.lt
          obtain ⟨A1, c1, rfl, -, -, -⟩ := own_form hown7
          have hoX : ∀ g, Value.ownBlock (.slice A1 s.evs.length c1) = some g → g < wr.heap.size := fun g hg => by obtain ⟨_, cs, h'⟩ := own_at hown g hg; exact h'.lt
          have hb' := hb.trans (hb7.mono hbs)
          clear hh hown hb hb7
          generalize hX : wr.heap.size = X at *
          clear hX
          have hsl7 := Sl.of_own hown7
          have cx := hx.cells
          go_wp2_with fail
          refine (hre A1 c1 _ W7 hsl7 (Nat.le_refl _)).mono ?_
          rintro e' w9 ⟨rfl, hb9⟩
          have hx9 := hx.step hb9
          have hown9 := own_step hown7 hb9
          have hh9 := hh7.step hb9
          have hb9' := hb'.trans (hb9.mono (by omega))
          have hw9 := hb9.size
          clear hx hown7 hh7 hb9 hb' hsl7 hre cx
          have cx := hx9.cells
          by_cases h0 : er = 0
          · subst h0
            have hev : (s.step e).evs = s.evs ++ [bareE e] := HEV.out
            have HEV' := Lib.hid hev
            clear hev HEV HSE
            go_wp2_with fail
            refine (hbare _).mono ?_
            rintro e' w10 ⟨rfl, hb10⟩
            have hx10 := hx9.step hb10
            have hown10 := own_step hown9 hb10
            have hh10 := hh9.step hb10
            have hb10' := hb9'.trans (hb10.mono (by omega))
            have hw10 := hb10.size
            have hB10 : Wc.heap.size ≤ w10.heap.size := by omega
            clear hx9 hown9 hh9 hb10 hb9' cx hbare
            have hown11 := hown10.alloc (.cells #[.int .i64 (bareE e).th, .bool (bareE e).ends, .int .i64 (bareE e).kind, .int .i64 (bareE e).key, .int .i64 (bareE e).code, .bool (bareE e).ok, .int .i64 (bareE e).val] 38)
            go_upto_region 25 with (at_builtin; refine wpList_append_lies _ rfl _ _ _ rfl Wc.heap.size 38 iE _ 7 56 Try.underlying29 hiE zE sE bE rfl (by omega) (.slice A1 s.evs.length c1) s.evs.length (s.evs.flatMap Ev.cells) rfl hown11 ⟨w10.heap.size, 0, none⟩ 1 1 (bareE e).cells rfl rfl (World.news_of_block (heap_alloc_new w10 _)) (Ev.cells_one _) (by omega) (by unfold maxLen; omega) (by omega) (by simp; omega) (w10.heap.size + 1) (by simp) ?_; intro g cap w11 hown12 hgrow hat hlt9)
            have kap : Kp Wc.heap.size [38] w10 w11 := ((Kp.refl Wc.heap.size [38] w10).alloc hB10 _).own hown11 (Nat.le_refl _) (by simp; omega) (by decide) hgrow
            have hh11 := hh10.kp kap (by decide) (by decide) (by decide)
            have hx11 := Blk.grown (hx10.alloc _) hgrow (fun h => by have := hoX _ h; omega)
            have hb11 := hb10'.trans (kap.below.mono (Nat.le_refl _))
            have hown' : w11.ownsRow Wc.heap.size 38 7 (.slice (some ⟨g, 0, none⟩) (s.evs.length + 1) cap) (s.step e).evs.length ((s.step e).evs.flatMap Ev.cells) := by rw [HEV'.out]; simpa using hown12
            have hw11 := kap.size
            have hB11 : Wc.heap.size ≤ w11.heap.size := by omega
            clear hown12 hgrow hat hlt9 hown10 hown11 hh10 hx10 kap hoX
            have cx := hx11.cells
            cases hen : e.ends with
            | true =>
              have hst : s.step e = s.end_ e.th e.code e.ok e.val := by simp [HS.step, hen]
              rw [hst] at HS1 hown'
              rw [hen] at cx
              clear hst hen HEV' hx11
              go_wp2_with fail
              refine (hist_end b' s Wc.heap.size e.th e.code e.ok e.val w11 hh11 hB11 (by omega)).mono ?_
              rintro e' w12 ⟨rfl, h12, k12⟩
              have hw12 := k12.size
              go_wp2_with fail
              refine ⟨⟨k + 1, by omega, by go_num, ?_, ?_, hb11.trans (k12.below.mono (Nat.le_refl _)), by omega⟩, ?_⟩
              · rw [HS1.out]; exact h12
              · rw [HS1.out]; exact own_kp hown' k12 (by decide)
              · simp [intOf]; omega
            | false =>
              have hst : s.step e = s.begin_ e.th e.kind e.key := by simp [HS.step, hen]
              rw [hst] at HS1 hown'
              rw [hen] at cx
              clear hst hen HEV' hx11
              go_wp2_with fail
              refine (hist_begin b' s Wc.heap.size e.th e.kind e.key w11 hh11 hB11 (by omega)).mono ?_
              rintro e' w12 ⟨rfl, h12, k12⟩
              have hw12 := k12.size
              go_wp2_with fail
              refine ⟨⟨k + 1, by omega, by go_num, ?_, ?_, hb11.trans (k12.below.mono (Nat.le_refl _)), by omega⟩, ?_⟩
              · rw [HS1.out]; exact h12
              · rw [HS1.out]; exact own_kp hown' k12 (by decide)
              · simp [intOf]; omega
          · have hb0 : (er == 0) = false := by simpa using h0
            have hb1 : (er != 0) = true := by simpa using h0
            go_wp2_with fail
            have hse := HSE.out h0
            refine ⟨⟨k + 1, by omega, by go_num, ?_, ?_, hb9', by omega⟩, ?_⟩
            · rw [HS1.out, hse]; exact hh9
            · rw [HS1.out, hse]; exact hown9
            · simp [intOf]; omega
        · have dk : decide ((k : Int) < (n' : Int)) = false := by simp; omega
          rw [List.take_of_length_le (by rw [HL'.out]; omega)] at hh hown hrf hlen
          have hkn : k = n' := by omega
          subst hkn
          have hb2 := hb
          generalize evs'.foldl HS.step s1 = s2 at *
          generalize wr = We at *
          obtain ⟨A2, c2, rfl, -, -, -⟩ := own_form hown
          have hslt := Sl.of_own hown
          have hh1e := hh1.step hb2
          have hsle := hsl.step (Nat.le_refl _) hb2
          have hbse := hb2.size
          clear hc6 hown6 hB6 hb hown
          go_wp2_with fail
          refine (hist_events B s1 B We hh1e (by omega)).mono ?_
          rintro e' w8 ⟨v, rfl, ho8, hb8⟩
          obtain ⟨A3, c3, rfl, -, -, -⟩ := own_form ho8
          go_wp2_with fail
          go_loopw [111] (fun i wr => ∃ (k : Nat) (xs : List Value), k ≤ s1.evs.length ∧ i = .int .i64 k ∧ wr.ownsRow We.heap.size 54 7 (.slice A3 s1.evs.length c3) s1.evs.length xs ∧ Below We.heap.size We wr) (fun i _ => s1.evs.length - (intOf i).toNat)
          case atStart => exact ⟨0, _, by omega, rfl, ho8, hb8⟩
          case round =>
            obtain ⟨k, xs, hk, rfl, hown, hb⟩ := hrel
            by_cases hlt : k < s1.evs.length
            · have dk : decide ((k : Int) < (s1.evs.length : Int)) = true := by simp; omega
              have hidx := (Sl.of_own hown).idx (P := Try.prog) (c := c3) Try.underlying52 hevSz hlt
              have hat := (Sl.of_own hown).at_ (k := k) (i := 0) hlt (by omega)
              have hxl := hown.1
              rcases hown.2 with ⟨h', h''⟩ | ⟨g, cap, cur, h', hgb, -⟩
              · omega
              simp only [Value.slice.injEq] at h'
              obtain ⟨rfl, -, rfl⟩ := h'
              have hfz := hown.frozenAt (k * 7)
              have hst := (hown.stored (k * 7) (.int .i64 9)).1
              simp only [ablk, aoff, Option.map_some, Option.getD_some, Nat.zero_add, Nat.add_zero] at hidx hat
              rw [List.getElem?_eq_getElem (by omega)] at hat
              go_wp2_with fail
              refine ⟨⟨k + 1, _, by omega, by go_num, hst, hb.setCell hgb _⟩, ?_⟩
              simp [intOf]; omega
            · have dk : decide ((k : Int) < (s1.evs.length : Int)) = false := by simp; omega
              have hb9 := hb
              have hs9 := hb.size
              generalize wr = W9 at *
              clear hown hb ho8 hb8
              have hh9 := hh1e.step hb9
              go_wp2_with fail
              refine (hist_calls B s1 B W9 hh9 (by omega)).mono ?_
              rintro e' w10 ⟨v, rfl, ho10, hb10⟩
              obtain ⟨A4, c4, rfl, -, -, -⟩ := own_form ho10
              go_wp2_with fail
              go_loopw [123] (fun i wr => ∃ (k : Nat) (xs : List Value), k ≤ s1.calls.length ∧ i = .int .i64 k ∧ wr.ownsRow W9.heap.size 44 9 (.slice A4 s1.calls.length c4) s1.calls.length xs ∧ Below W9.heap.size W9 wr) (fun i _ => s1.calls.length - (intOf i).toNat)
              case atStart => exact ⟨0, _, by omega, rfl, ho10, hb10⟩
              case round =>
                obtain ⟨k, xs, hk, rfl, hown, hb⟩ := hrel
                have hcl : s1.calls.length ≤ 1000 := by have := hrf1.good.wf.le; omega
                by_cases hlt : k < s1.calls.length
                · have dk : decide ((k : Int) < (s1.calls.length : Int)) = true := by simp; omega
                  have hidx := (Sl.of_own hown).idx (P := Try.prog) (c := c4) Try.underlying41 hcSz hlt
                  have hat := (Sl.of_own hown).at_ (k := k) (i := 1) hlt (by omega)
                  have hxl := hown.1
                  rcases hown.2 with ⟨h', h''⟩ | ⟨g, cap, cur, h', hgb, -⟩
                  · omega
                  simp only [Value.slice.injEq] at h'
                  obtain ⟨rfl, -, rfl⟩ := h'
                  have hfz := hown.frozenAt (k * 9 + 1)
                  have hst := (hown.stored (k * 9 + 1) (.int .i64 99)).1
                  simp only [ablk, aoff, Option.map_some, Option.getD_some, Nat.zero_add, Nat.add_zero] at hidx hat
                  rw [List.getElem?_eq_getElem (by omega)] at hat
                  go_wp2_with fail
                  refine ⟨⟨k + 1, _, by omega, by go_num, hst, hb.setCell hgb _⟩, ?_⟩
                  simp [intOf]; omega
                · have dk : decide ((k : Int) < (s1.calls.length : Int)) = false := by simp; omega
                  have hbW := hb9.trans (hb.mono hs9)
                  have hsW := hbW.size
                  generalize wr = WF at *
                  clear hown hb ho10 hb10 hb9 hh9
                  have hhF := hh1e.step hbW
                  have hslF := hsle.step hbse hbW
                  have hh2F := hh.step hbW
                  have hsl2F := hslt.step (Nat.le_refl _) hbW
                  go_wp2_with fail
                  refine (law_same A1 B s1 B s1.evs.length c1 Wc.heap.size WF hhF hslF (by omega) rfl (by omega)).mono ?_
                  rintro e' x1 ⟨rfl, y1⟩
                  have z1 := y1.size
                  go_wp2_with fail
                  refine (law_calls A1 B s1 B s1.evs.length c1 Wc.heap.size x1 (hhF.step y1) hrf1 (hslF.step (by omega) y1) (by omega) rfl (by omega)).mono ?_
                  rintro e' x2 ⟨rfl, y2⟩
                  have z2 := y2.size
                  have y12 := y1.trans (y2.mono z1)
                  go_wp2_with fail
                  refine (law_same A2 b' s2 Wc.heap.size s2.evs.length c2 We.heap.size x2 (hh2F.step y12) (hsl2F.step (by omega) y12) (by omega) rfl (by omega)).mono ?_
                  rintro e' x3 ⟨rfl, y3⟩
                  have z3 := y3.size
                  have y13 := y12.trans (y3.mono (by omega))
                  go_wp2_with fail
                  refine (law_calls A2 b' s2 Wc.heap.size s2.evs.length c2 We.heap.size x3 (hh2F.step y13) hrf (hsl2F.step (by omega) y13) (by omega) rfl (by omega)).mono ?_
                  rintro e' x4 ⟨rfl, y4⟩
                  go_wp2_with fail
                  go_ret
                  exact ⟨rfl, hbc.trans ((hb2.mono hbs0).trans ((hbW.mono (by omega)).trans ((y13.mono (by omega)).trans (y4.mono (by omega)))))⟩

end Go.Proofs.Ytboommppikfgnaa
