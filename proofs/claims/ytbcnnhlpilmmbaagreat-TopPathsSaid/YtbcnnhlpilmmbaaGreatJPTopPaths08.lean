/- Texts that are wanted for PTopPaths.
   Conditions: none. -/
import Derived.Test.YtbcnnhlpilmmbaaGreatJPTopPaths07
set_option maxRecDepth 100000
set_option maxHeartbeats 6400000
namespace Go.Proofs.YtbcnnhlpilmmbaaGreat
open Go Go.RowKit
def LPr : List (Option TypeId) := [some 236, some 75, some 34]
theorem LM_LPr : ∀ x, x ∈ LM → x ∈ LPr := by decide
structure PrW (C : Nat → Nat) (c sg b : Nat) (M : ML) (r : Bool × Mm × PrS) (w : World) (e : Ending) (w' : World) : Prop where
 ret : e = .returned (.bool r.1)
 mem : MemAt w' C M r.2.1
 own : PrAt w' C c sg b r.2.2
 fr : Fr C (Kc c) LPr w w'
theorem prepare_Step0 {w : World} {C : Nat → Nat} {c s sg b : Nat} {M : ML} {m : Mm} {me : Int} {t : StS} {p : PrS} (hm : MemAt w C M m) (hst : StAt w C s sg M.L me t) (h : PrAt w C c sg b p) (h0 : p.loaded = false) : Calls Tryz.prog 117 #[.pointer (some ⟨b, 0, none⟩), .pointer (some ⟨M.b, 0, none⟩)] w (PrW C c sg b M (stepPr M m t p) w) := by
 obtain ⟨sb, hfd⟩ := h
 obtain ⟨key, next, found, loaded⟩ := p
 obtain ⟨⟨A, n, cap, hn, st, hrow⟩, hme, hsp, hsm⟩ := hst
 simp only at sb hfd h0
 subst h0
 have hvr := ld_rng hm t.spare
 obtain ⟨v, hv⟩ : ∃ v, ld M m t.spare = v := ⟨_, rfl⟩
 have HST : Hid (stepPr M m t ⟨key, next, found, false⟩ = (false, m, ⟨key, next, v, true⟩)) := Lib.hid (by unfold stepPr; rw [if_pos rfl, hv])
 rw [hv] at hvr
 have HV := Lib.hid hv
 clear hv hn hrow hsm
 go_enter Tryz.func117, Tryz.ntmps117
 have fr := Fr.refl C (Kc c) LPr w
 have ag := Agr.refl w.heap.size C
 go_wp2_with fail
 refine (mem_Load hm t.spare).mono ?_; clear hm; rintro e w1 ⟨rfl, hm, hf⟩
 rw [HV.out]
 revert st; revert sb; revert fr; refine mvf hf (Kc_mem c) LM_LPr ag ?_; clear hf; intro fr sb st
 have z1 := And.intro sb st
 revert hm st; revert fr; refine st1 sb 3 (.int .u64 v) (K0_Kc c) ag ?_; clear sb; rintro w2 e1 fr sb hm st
 simp only [sx] at sb
 have z2 := And.intro sb st
 revert fr hm st; refine st1 sb 4 (.bool true) (K0_Kc c) ag ?_; clear sb; rintro w3 e2 fr sb hm st
 simp only [sx] at sb
 go_wp2_with fail
 clear z1 e1 z2 e2
 go_ret
 exact ⟨by rw [HST.out]; rfl, by rw [HST.out]; exact hm, by rw [HST.out]; exact ⟨sb, hvr⟩, fr⟩
theorem prepare_Step1 {w : World} {C : Nat → Nat} {c s sg b : Nat} {M : ML} {m : Mm} {me : Int} {t : StS} {p : PrS} (hm : MemAt w C M m) (hst : StAt w C s sg M.L me t) (h : PrAt w C c sg b p) (h0 : p.loaded = true) (hk : 0 ≤ p.key) : Calls Tryz.prog 117 #[.pointer (some ⟨b, 0, none⟩), .pointer (some ⟨M.b, 0, none⟩)] w (PrW C c sg b M (stepPr M m t p) w) := by
 obtain ⟨sb, hfd⟩ := h
 obtain ⟨key, next, found, loaded⟩ := p
 obtain ⟨⟨A, n, cap, hn, st, hrow⟩, hme, hsp, hsm⟩ := hst
 simp only at sb hfd h0
 subst h0
 obtain ⟨W0, hW0⟩ : ∃ W0, getW found = W0 := ⟨_, rfl⟩
 have hver : 0 ≤ W0.ver ∧ W0.ver < 262144 := by rw [← hW0]; exact (getW_fit found).ver
 have HG := fun W => word_Get found W hfd
 rw [hW0] at HG
 have hfld : ∀ W, (Instr.field 198 W0.val 4).run Tryz.prog W = .ok (.int .i64 W0.ver) W := fun W => fldW4 _ _ _ _ _ W
 have HLK := fun W => (show Calls Tryz.prog 164 #[.agg #[.int .i64 key, .int .i64 0, .bool false, .int .i64 0, .int .i64 W0.ver], .int .i64 next] W _ from word_Link ⟨key, 0, false, 0, W0.ver⟩ next W hver)
 obtain ⟨W1, hW1⟩ : ∃ W1, (⟨key, 0, false, 0, W0.ver⟩ : Wd).link next = W1 := ⟨_, rfl⟩
 rw [hW1] at HLK
 have hxr := putW_rng W1
 obtain ⟨x, hx⟩ : ∃ x, putW W1 = x := ⟨_, rfl⟩
 have HP := word_Put_ W1 x hx
 have HST : Hid (stepPr M m t ⟨key, next, found, true⟩ = (true, Proofs.YtbcnnhlpilmmbaaGreat.st M m t.spare x, ⟨key, next, found, true⟩)) := Lib.hid (by unfold stepPr PrS.word; rw [if_neg (by simp)]; simp only [hW0, hW1, hx])
 rw [hx] at hxr
 have hxr2 : 0 ≤ x ∧ x < 18446744073709551616 := by omega
 clear hn hrow hsm hW0 hW1 hx
 go_enter Tryz.func117, Tryz.ntmps117
 have fr := Fr.refl C (Kc c) LPr w
 have ag := Agr.refl w.heap.size C
 go_wp2_with fail
 revert st; revert hm; revert sb; revert fr; refine drw ?_; intro fr sb hm st
 obtain ⟨q1, q2, qi⟩ := such2 sb st
 refine wp_such2 sb st 21 [([0, 1, 2, 3, 4, 5, 6, 7, 11, 12, 13, 14], 8), ([9, 10], 15), ([], 16)] [17, 18, 19, 20] [21] (by kernel_rfl) (by kernel_rfl) ?_
 refine wpPh_cons ?_; simp only [ox]; repeat (go_big_quiet_step (fail))
 refine pho rfl (fun K' hK' => ?_); go_simp
 revert fr sb hm st; with_reducible refine pur (HG _) ?_; rintro e w1 rfl fr sb hm st
 refine hK' _ _ (mks2 sb st) ?_; clear hK' K'
 refine wpPh_cons ?_; simp only [ox]; repeat (go_big_quiet_step (fail))
 refine pho rfl (fun K' hK' => ?_); go_simp
 revert fr sb hm st; with_reducible refine pur (HLK _) ?_; rintro e w2 rfl fr sb hm st
 refine hK' _ _ (mks2 sb st) ?_; clear hK' K'
 refine wpPh_cons ?_; simp only [ox]; repeat (go_big_quiet_step (fail))
 refine pho rfl (fun K' hK' => ?_); go_simp
 revert fr sb hm st; with_reducible refine pur (HP _) ?_; rintro e w3 ⟨ec, rfl⟩ fr sb hm st
 refine hK' _ _ (mks2 sb st) ?_; clear hK' K'
 refine wpPh_nil ?_; try simp only [ox]
 repeat (go_big_quiet_step (fail))
 refine wpQuiet_nil ?_
 refine wpTail_late _ _ _ (by kernel_rfl) ?_; try simp only [ox]
 clear qi q1 q2
 go_wp2_with fail
 refine NoPanic.normal ?_
 go_wp2_with fail
 refine (mem_Store hm t.spare x hxr2).mono ?_; clear hm; rintro e w4 ⟨rfl, hm, hf⟩
 revert fr sb st; refine mvf hf (Kc_mem c) LM_LPr ag ?_; clear hf; intro fr sb st
 go_wp2_with fail
 go_ret
 exact ⟨by rw [HST.out]; rfl, by rw [HST.out]; exact hm, by rw [HST.out]; exact ⟨sb, hfd⟩, fr⟩
theorem prepare_Step {w : World} {C : Nat → Nat} {c s sg b : Nat} {M : ML} {m : Mm} {me : Int} {t : StS} {p : PrS} (hm : MemAt w C M m) (hst : StAt w C s sg M.L me t) (h : PrAt w C c sg b p) (hk : 0 ≤ p.key) : Calls Tryz.prog 117 #[.pointer (some ⟨b, 0, none⟩), .pointer (some ⟨M.b, 0, none⟩)] w (PrW C c sg b M (stepPr M m t p) w) := by
 cases h0 : p.loaded
 ·exact prepare_Step0 hm hst h h0
 ·exact prepare_Step1 hm hst h h0 hk
structure MW (C : Nat → Nat) (c s : Nat) (LX : List (Option TypeId)) (M : ML) (r1 : Bool) (m' : Mm) (P : World → (Nat → Nat) → Prop) (w : World) (e : Ending) (w' : World) : Prop where
 ret : e = .returned (.bool r1)
 own : ∃ C', Agr w.heap.size C C' ∧ MemAt w' C' M m' ∧ P w' C'
 fr : Fr C (Kcs c s) LX w w'
def LSw : List (Option TypeId) := some 207 :: some 137 :: LSc
theorem LSc_LSw : ∀ x, x ∈ LSc → x ∈ LSw := by decide
theorem scan_New (L : Ly) (hL : L.Ok) (l : List Int) (A : Option Addr) (n cap B : Nat) (C : Nat → Nat) (c s : Nat) (w : World) (hr : Sl w B 1 A n (ivs l)) (hB : B ≤ w.heap.size) (hl : l.length = n) (hn : n ≤ 100000) (hnil : A = none → n = 0 ∧ cap = 0) (hsm : Small l) :
  Calls Tryz.prog 136 #[L.val, .slice A n cap] w (NewW C c (fun w' C' b => ScAt w' C' c s b L (ScS.new l)) w) := by
 refine (guard_New L A n cap B (ivs l) w hr hB (ivs_one l) hn hnil).mono ?_
 rintro e w' ⟨⟨b, mb, v, rfl, hb, hmb, hne, hvb, hbk, how, hse⟩, hbel⟩
 obtain ⟨A2, c2, rfl, hc2, -, -⟩ := own_form how
 have hth := hL.th
 refine ⟨⟨b, rfl, hb, ⟨fun _ => ⟨A2, n, c2, mb, 0, hl, SB.mk hbk (paint_new C c hb), Sr.of_row ⟨own_mono how (Nat.zero_le _), fun g hg => paint_new C c (own_at how g hg).1⟩, hc2, hse, paint_new C c hmb, by simp [ScS.new]⟩, fun h => by simp only [ScS.new] at h; omega, by simp only [ScS.new]; omega, hsm, fun x hx => by simp [ScS.new] at hx, by simp only [ScS.new, hl]; simp; omega⟩⟩, hbel⟩
theorem stepSc_end {M : ML} {m : Mm} {x : ScS} (_ : 1 ≤ M.L.th) (h : (stepSc M m x).1 = true) : 2 * M.L.th ≤ (stepSc M m x).2.2.at_ := by
 unfold stepSc at h ⊢
 split
 ·assumption
 ·split
  ·rename_i h2; simp only [ScS.part, ScS.look]; omega
  ·rename_i h1 h2; rw [if_neg h1, if_neg h2] at h; cases h
theorem sweep_StepS {w : World} {C : Nat → Nat} {c s sg b : Nat} {M : ML} {m : Mm} {me : Int} {t : StS} {y : ScS} {x : SwS} (hm : MemAt w C M m) (hst : StAt w C s sg M.L me t) (h : SwAt w C c s sg b M.L x) (h0 : x = some y) : Calls Tryz.prog 88 #[.pointer (some ⟨b, 0, none⟩), .pointer (some ⟨M.b, 0, none⟩)] w (MW C c s LSw M (stepSw M m t x).1 (stepSw M m t x).2.1 (fun w' C' => StAt w' C' s sg M.L me (stepSw M m t x).2.2.1 ∧ SwAt w' C' c s sg b M.L (stepSw M m t x).2.2.2) w) := by
 subst h0
 obtain ⟨p, sb, bs, rfl, hsc⟩ := h.ex
 obtain ⟨⟨A, n, cap, hn, st, hrow⟩, hme, hsp, hsm⟩ := hst
 have hth := hm.ok.th
 obtain ⟨r, hr⟩ : ∃ r, stepSc M m y = r := ⟨_, rfl⟩
 have hend := fun h => (stepSc_end (M := M) (m := m) (x := y) hth.1 h)
 have HSC := fun W C' (h1 : MemAt W C' M m) (h2 : ScAt W C' c s bs M.L y) => scan_Step h1 h2
 rw [hr] at hend
 simp only [hr] at HSC
 obtain ⟨r1, m', y'⟩ := r
 have HST : Hid (stepSw M m t (some y) = (r1, m', if r1 then { t with ret := y'.kept } else t, some y')) := Lib.hid (by unfold stepSw; simp only [Option.getD, hr])
 have HEND := Lib.hid hend
 have HN := Lib.hid hn
 have HSM := Lib.hid hsm
 clear hn hsm hr hend h
 go_enter Tryz.func88, Tryz.ntmps88
 have fr := Fr.refl C (Kcs c s) LSw w
 have ag := Agr.refl w.heap.size C
 go_wp2_with fail
 refine (HSC _ _ hm hsc).mono ?_; clear hm hsc; rintro e w1 ⟨rfl, ⟨C1, aG, hm, hsc⟩, hf⟩
 revert st; revert hrow; revert sb; revert fr; revert ag; refine mvm hf aG (Kcs_c c s) LSc_LSw ?_; clear hf aG; intro ag fr sb hrow st
 try dsimp only at hm hsc
 cases r1
 ·skip
  go_wp2_with fail
  go_ret
  exact ⟨by rw [HST.out]; rfl, ⟨_, ag, by rw [HST.out]; exact hm, by rw [HST.out]; exact ⟨⟨⟨A, n, cap, HN.out, st, hrow⟩, hme, hsp, HSM.out⟩, ⟨_, sb, bs, rfl, hsc⟩⟩⟩, fr⟩
 ·skip
  have hat := HEND.out rfl
  have hsk := Lib.hid hsc.smallk
  obtain ⟨Ak, Af, nk, nf, ck, cf, bg, vn, vm, hnk, hnf, ss, hrk, hgv⟩ := hsc.give hat
  have HNK := Lib.hid hnk
  clear hnk
  clear hrow hgv
  go_wp2_with fail
  revert ss; revert st; revert hrk; revert hsc; revert hm; revert sb; revert fr; refine drw ?_; intro fr sb hm hsc hrk st ss
  obtain ⟨q1, q2, q3, qi⟩ := such3 sb st ss
  refine wp_such3 sb st ss 13 [] [0, 1, 2, 3, 4, 5, 6, 7, 8, 9, 10, 11, 12] [13] (by kernel_rfl) (by kernel_rfl) ?_
  refine wpPh_nil ?_; try simp only [ox]
  repeat (go_big_quiet_step (fail))
  refine wpQuiet_nil ?_
  refine wpTail_late _ _ _ (by kernel_rfl) ?_; try simp only [ox]
  clear qi q1 q2 q3
  have z1 := And.intro sb (And.intro st ss)
  revert fr sb hm hsc hrk ss; refine st1d st 4 (.slice Ak nk ck) (Kcs_s c s) ag ?_; clear st; rintro w2 e1 fr st sb hm hsc hrk ss
  simp only [sx] at st
  go_wp2_with fail
  try rw [e1]
  refine NoPanic.normal ?_
  go_wp2_with fail
  clear z1 e1
  go_ret
  exact ⟨by rw [HST.out]; rfl, ⟨_, ag, by rw [HST.out]; exact hm, by rw [HST.out]; exact ⟨⟨⟨Ak, nk, ck, HNK.out, st, hrk⟩, hme, hsp, hsk.out⟩, ⟨_, sb, bs, rfl, hsc⟩⟩⟩, fr⟩
theorem sweep_StepN {w : World} {C : Nat → Nat} {c s sg b : Nat} {M : ML} {m : Mm} {me : Int} {t : StS} {x : SwS} (hm : MemAt w C M m) (hst : StAt w C s sg M.L me t) (h : SwAt w C c s sg b M.L x) (hle : t.ret.length ≤ 100000) (h0 : x = none) : Calls Tryz.prog 88 #[.pointer (some ⟨b, 0, none⟩), .pointer (some ⟨M.b, 0, none⟩)] w (MW C c s LSw M (stepSw M m t x).1 (stepSw M m t x).2.1 (fun w' C' => StAt w' C' s sg M.L me (stepSw M m t x).2.2.1 ∧ SwAt w' C' c s sg b M.L (stepSw M m t x).2.2.2) w) := by
 subst h0
 obtain ⟨p, sb, hp⟩ := h.ex
 have hp' : p = .pointer none := hp
 subst hp'
 have HSN := Lib.hid (fun (W : World) (C' : Nat → Nat) (A : Option Addr) (n cap : Nat) (hl : t.ret.length = n) (hrow : Row W C' s 3 1 (.slice A n cap) n (ivs t.ret)) => scan_New M.L hm.ok t.ret A n cap W.heap.size C' c s W (Sl.of_own hrow.own) (Nat.le_refl _) hl (by omega) (by obtain ⟨A', c', h1, -, h2, -⟩ := hrow.form; injection h1 with e1 _ e2; subst e1 e2; exact h2) hst.small)
 clear hle hp
 obtain ⟨⟨A, n, cap, hn, st, hrow⟩, hme, hsp, hsm⟩ := hst
 have hth := hm.ok.th
 obtain ⟨r, hr⟩ : ∃ r, stepSc M m (.new t.ret) = r := ⟨_, rfl⟩
 have hend := fun h => (stepSc_end (M := M) (m := m) (x := (.new t.ret)) hth.1 h)
 have HSC := fun bs W C' (h1 : MemAt W C' M m) (h2 : ScAt W C' c s bs M.L (.new t.ret)) => scan_Step h1 h2
 rw [hr] at hend
 simp only [hr] at HSC
 obtain ⟨r1, m', y'⟩ := r
 have HST : Hid (stepSw M m t none = (r1, m', if r1 then { t with ret := y'.kept } else t, some y')) := Lib.hid (by unfold stepSw; simp only [Option.getD, hr])
 have HEND := Lib.hid hend
 have HN := Lib.hid hn
 have HSM := Lib.hid hsm
 clear hsm hr hend h
 go_enter Tryz.func88, Tryz.ntmps88
 have fr := Fr.refl C (Kcs c s) LSw w
 have ag := Agr.refl w.heap.size C
 go_wp2_with fail
 revert st; revert hrow; revert hm; revert sb; revert fr; refine drw ?_; intro fr sb hm hrow st
 obtain ⟨q1, q2, qi⟩ := such2 sb st
 refine wp_such2 sb st 15 [] [0, 1, 2, 3, 4, 5, 6, 7, 8, 9, 10, 11, 12, 13, 14] [15, 16, 17, 18] (by kernel_rfl) (by kernel_rfl) ?_
 refine wpPh_nil ?_; try simp only [ox]
 repeat (go_big_quiet_step (fail))
 refine wpQuiet_nil ?_
 refine wpTail_late _ _ _ (by kernel_rfl) ?_; try simp only [ox]
 clear qi q1 q2
 go_wp2_with fail
 have hk := HSN.out _ _ A n cap hn hrow; revert ag fr sb hm hrow st; refine newb hk ?_; clear hk; rintro w1 bs C1 ag fr hsc sb hm hrow st
 clear hn HSN
 replace HSC := HSC bs
 have z1 := And.intro sb st
 revert fr hsc hm hrow st; refine st1 sb 1 (.pointer (some ⟨bs, 0, none⟩)) (Kcs_0 c s) ag ?_; clear sb; rintro w2 e1 fr sb hsc hm hrow st
 simp only [sx] at sb
 go_wp2_with fail
 refine NoPanic.normal ?_
 go_wp2_with fail
 clear z1 e1
 go_wp2_with fail
 refine (HSC _ _ hm hsc).mono ?_; clear hm hsc; rintro e w3 ⟨rfl, ⟨C3, aG, hm, hsc⟩, hf⟩
 revert ag fr hrow st sb; refine mvm hf aG (Kcs_c c s) LSc_LSw ?_; clear hf aG; intro ag fr hrow st sb
 try dsimp only at hm hsc
 cases r1
 ·skip
  go_wp2_with fail
  go_ret
  exact ⟨by rw [HST.out]; rfl, ⟨_, ag, by rw [HST.out]; exact hm, by rw [HST.out]; exact ⟨⟨⟨A, n, cap, HN.out, st, hrow⟩, hme, hsp, HSM.out⟩, ⟨_, sb, bs, rfl, hsc⟩⟩⟩, fr⟩
 ·skip
  have hat := HEND.out rfl
  have hsk := Lib.hid hsc.smallk
  obtain ⟨Ak, Af, nk, nf, ck, cf, bg, vn, vm, hnk, hnf, ss, hrk, hgv⟩ := hsc.give hat
  have HNK := Lib.hid hnk
  clear hnk
  clear hrow hgv
  go_wp2_with fail
  revert ss; revert st; revert hrk; revert hsc; revert hm; revert sb; revert fr; refine drw ?_; intro fr sb hm hsc hrk st ss
  obtain ⟨q1, q2, q3, qi⟩ := such3 sb st ss
  refine wp_such3 sb st ss 13 [] [0, 1, 2, 3, 4, 5, 6, 7, 8, 9, 10, 11, 12] [13] (by kernel_rfl) (by kernel_rfl) ?_
  refine wpPh_nil ?_; try simp only [ox]
  repeat (go_big_quiet_step (fail))
  refine wpQuiet_nil ?_
  refine wpTail_late _ _ _ (by kernel_rfl) ?_; try simp only [ox]
  clear qi q1 q2 q3
  have z2 := And.intro sb (And.intro st ss)
  revert fr sb hm hsc hrk ss; refine st1d st 4 (.slice Ak nk ck) (Kcs_s c s) ag ?_; clear st; rintro w4 e1 fr st sb hm hsc hrk ss
  simp only [sx] at st
  go_wp2_with fail
  try rw [e1]
  refine NoPanic.normal ?_
  go_wp2_with fail
  clear z2 e1
  go_ret
  exact ⟨by rw [HST.out]; rfl, ⟨_, ag, by rw [HST.out]; exact hm, by rw [HST.out]; exact ⟨⟨⟨Ak, nk, ck, HNK.out, st, hrk⟩, hme, hsp, hsk.out⟩, ⟨_, sb, bs, rfl, hsc⟩⟩⟩, fr⟩
theorem sweep_Step {w : World} {C : Nat → Nat} {c s sg b : Nat} {M : ML} {m : Mm} {me : Int} {t : StS} {x : SwS} (hm : MemAt w C M m) (hst : StAt w C s sg M.L me t) (h : SwAt w C c s sg b M.L x) (hle : t.ret.length ≤ 100000) : Calls Tryz.prog 88 #[.pointer (some ⟨b, 0, none⟩), .pointer (some ⟨M.b, 0, none⟩)] w (MW C c s LSw M (stepSw M m t x).1 (stepSw M m t x).2.1 (fun w' C' => StAt w' C' s sg M.L me (stepSw M m t x).2.2.1 ∧ SwAt w' C' c s sg b M.L (stepSw M m t x).2.2.2) w) := by
 cases h0 : x with
 | none => exact h0 ▸ sweep_StepN hm hst h hle h0
 | some y => exact h0 ▸ sweep_StepS hm hst h h0
def LEn : List (Option TypeId) := some 182 :: some 185 :: LSw
theorem LM_LEn : ∀ x, x ∈ LM → x ∈ LEn := by decide
theorem LSw_LEn : ∀ x, x ∈ LSw → x ∈ LEn := by decide
theorem LAl_LEn : ∀ x, x ∈ LAl → x ∈ LEn := by decide
theorem stepSw_end {M : ML} {m : Mm} {t : StS} {x : SwS} (hth : 1 ≤ M.L.th) (h : (stepSw M m t x).1 = true) : ∃ y, (stepSw M m t x).2.2.2 = some y ∧ 2 * M.L.th ≤ y.at_ :=
 ⟨_, rfl, stepSc_end hth h⟩
def EnS.Live (e : EnS) : Prop := ∀ a, e.scan = none → e.alloc = some a → 0 ≤ a.left ∧ a.got = 0
theorem alFine {M : ML} {m : Mm} {a : AlS} (hL : M.L.Ok) (hg : a.got = 0) (hat : 1 ≤ a.at_ ∧ a.at_ ≤ M.L.nd) : 0 ≤ (stepAl M m a).2.2.got ∧ (stepAl M m a).2.2.got ≤ 1000 := by
 have hnd := hL.nd
 obtain ⟨got, at_, left, found, free⟩ := a
 simp only at hg hat
 subst hg
 unfold stepAl
 simp only [AlS.on]
 split
 ·split
  ·exact ⟨by simp only; omega, by simp only; omega⟩
  ·exact ⟨by simp, by simp⟩
 ·split
  ·exact ⟨by simp, by simp⟩
  ·exact ⟨by simp, by simp⟩
theorem ensure_sweep {w : World} {C : Nat → Nat} {c s sg b : Nat} {M : ML} {m : Mm} {me : Int} {t : StS} {e : EnS} {x : SwS} (hm : MemAt w C M m) (hst : StAt w C s sg M.L me t) (h : EnAt w C c s sg b M.L e) (hle : t.ret.length ≤ 100000) (h0 : e.scan = some x) : Calls Tryz.prog 109 #[.pointer (some ⟨b, 0, none⟩), .pointer (some ⟨M.b, 0, none⟩)] w (MW C c s LEn M (stepEn M me m t e).1 (stepEn M me m t e).2.1 (fun w' C' => StAt w' C' s sg M.L me (stepEn M me m t e).2.2.1 ∧ EnAt w' C' c s sg b M.L (stepEn M me m t e).2.2.2) w) := by
 obtain ⟨short, alloc, scan, done⟩ := e
 simp only at h0
 subst h0
 obtain ⟨pa, pw, sb, ⟨bw, rfl, hsw⟩, -⟩ := h.ex
 simp only at sb
 have hth := hm.ok.th
 obtain ⟨r, hr⟩ : ∃ r, stepSw M m t x = r := ⟨_, rfl⟩
 have hend := fun h => (stepSw_end (M := M) (m := m) (t := t) (x := x) hth.1 h)
 have HSW := fun W C' (h1 : MemAt W C' M m) (h2 : StAt W C' s sg M.L me t) (h3 : SwAt W C' c s sg bw M.L x) => sweep_Step h1 h2 h3 hle
 rw [hr] at hend
 simp only [hr] at HSW
 obtain ⟨r1, m', t', x'⟩ := r
 have HST : Hid (stepEn M me m t ⟨short, alloc, some x, done⟩ = if r1 = false then (false, m', t', ⟨short, alloc, some x', done⟩) else (((x'.getD (.new [])).freed).isEmpty, m', t', ⟨((x'.getD (.new [])).freed).isEmpty, none, none, true⟩)) := Lib.hid (by unfold stepEn; simp only [hr])
 have HEND := Lib.hid hend
 clear hr hend h
 go_enter Tryz.func109, Tryz.ntmps109
 have fr := Fr.refl C (Kcs c s) LEn w
 have ag := Agr.refl w.heap.size C
 go_wp2_with fail
 refine (HSW _ _ hm hst hsw).mono ?_; clear hm hst hsw; rintro e w1 ⟨rfl, ⟨C1, aG, hm, hst, hsw⟩, hf⟩
 revert sb; revert fr; revert ag; refine mvm hf aG (fun _ h => h) LSw_LEn ?_; clear hf aG; intro ag fr sb
 try dsimp only at hm hst hsw
 cases r1
 ·skip
  go_wp2_with fail
  go_ret
  exact ⟨by rw [HST.out]; rfl, ⟨_, ag, by rw [HST.out]; exact hm, by rw [HST.out]; exact ⟨hst, ⟨_, _, sb, ⟨bw, rfl, hsw⟩, fun h => by cases h⟩⟩⟩, fr⟩
 ·skip
  obtain ⟨y, hy, hat⟩ := HEND.out rfl
  subst hy
  obtain ⟨p, sw, bs, rfl, hsc⟩ := hsw.ex
  obtain ⟨Ak, Af, nk, nf, ck, cf, bg, vn, vm, hnk, hnf, ss, hrk, hgv⟩ := hsc.give hat
  have hie : ((nf : Int) == 0) = y.freed.isEmpty := by
   rw [← hnf]
   cases y.freed with
   | nil => rfl
   | cons z zs => exact beq_eq_false_iff_ne.2 (by simp only [List.length_cons]; omega)
  obtain ⟨q, hq⟩ : ∃ q, ((nf : Int) == 0) = q := ⟨_, rfl⟩
  rw [hq] at hie
  have HIE := Lib.hid hie
  clear hie hnf hnk hrk hgv hsc hsw
  have z1 := And.intro sb (And.intro sw ss)
  revert ss; revert sw; revert hst; revert hm; revert fr; refine st1 sb 1 (.bool q) (Kcs_0 c s) ag ?_; clear sb; rintro w2 e1 fr sb hm hst sw ss
  simp only [sx] at sb
  have z2 := And.intro sb (And.intro sw ss)
  revert fr hm hst sw ss; refine st1 sb 4 (.bool true) (Kcs_0 c s) ag ?_; clear sb; rintro w3 e2 fr sb hm hst sw ss
  simp only [sx] at sb
  have z3 := And.intro sb (And.intro sw ss)
  revert fr hm hst sw ss; refine st1 sb 3 (.pointer none) (Kcs_0 c s) ag ?_; clear sb; rintro w4 e3 fr sb hm hst sw ss
  simp only [sx] at sb
  have z4 := And.intro sb (And.intro sw ss)
  revert fr hm hst sw ss; refine st1 sb 2 (.pointer none) (Kcs_0 c s) ag ?_; clear sb; rintro w5 e4 fr sb hm hst sw ss
  simp only [sx] at sb
  go_wp2_with fail
  clear z1 e1 z2 e2 z3 e3 z4 e4
  go_ret
  exact ⟨by rw [HST.out, HIE.out]; rfl, ⟨_, ag, by rw [HST.out]; exact hm, by rw [HST.out]; exact ⟨hst, ⟨_, _, by rw [HIE.out] at sb; exact sb, rfl, fun _ => rfl⟩⟩⟩, fr⟩
theorem ensure_Step1 {w : World} {C : Nat → Nat} {c s sg b : Nat} {M : ML} {m : Mm} {me : Int} {t : StS} {e : EnS} {x : SwS} (hm : MemAt w C M m) (hst : StAt w C s sg M.L me t) (h : EnAt w C c s sg b M.L e) (hle : t.ret.length ≤ 100000) (h0 : e.scan = some x) : Calls Tryz.prog 73 #[.pointer (some ⟨b, 0, none⟩), .pointer (some ⟨M.b, 0, none⟩)] w (MW C c s LEn M (stepEn M me m t e).1 (stepEn M me m t e).2.1 (fun w' C' => StAt w' C' s sg M.L me (stepEn M me m t e).2.2.1 ∧ EnAt w' C' c s sg b M.L (stepEn M me m t e).2.2.2) w) := by
 have HSW := fun W C' (h1 : MemAt W C' M m) (h2 : StAt W C' s sg M.L me t) (h3 : EnAt W C' c s sg b M.L e) => ensure_sweep h1 h2 h3 hle h0
 obtain ⟨pa, pw, sb, hpw, hpa⟩ := h.ex
 rw [h0] at hpw
 obtain ⟨bw, rfl, hsw⟩ := hpw
 have hc := sb.blk.cells
 clear hpa hsw h0
 generalize stepEn M me m t e = r at *
 go_enter Tryz.func73, Tryz.ntmps73
 go_wp2_with fail
 refine (HSW _ _ hm hst h).mono ?_
 rintro e w2 ⟨rfl, own, fr⟩
 go_wp2_with fail
 go_ret
 exact ⟨rfl, own, fr⟩
theorem ensure_Step2 {w : World} {C : Nat → Nat} {c s sg b : Nat} {M : ML} {m : Mm} {me : Int} {t : StS} {e : EnS} {a : AlS} (hm : MemAt w C M m) (hst : StAt w C s sg M.L me t) (h : EnAt w C c s sg b M.L e) (_ : t.ret.length ≤ 100000) (hlive : e.Live) (h0 : e.scan = none) (h1 : e.alloc = some a) : Calls Tryz.prog 73 #[.pointer (some ⟨b, 0, none⟩), .pointer (some ⟨M.b, 0, none⟩)] w (MW C c s LEn M (stepEn M me m t e).1 (stepEn M me m t e).2.1 (fun w' C' => StAt w' C' s sg M.L me (stepEn M me m t e).2.2.1 ∧ EnAt w' C' c s sg b M.L (stepEn M me m t e).2.2.2) w) := by
 have hl := hlive a h0 h1
 obtain ⟨short, alloc, scan, done⟩ := e
 simp only at h0 h1
 subst h0 h1
 obtain ⟨pa, pw, sb, hpw, hpa⟩ := h.ex
 have hpw' : pw = .pointer none := hpw
 subst hpw'
 obtain ⟨ba, rfl, hal, hgot0⟩ := hpa rfl
 have hat := hal.at_
 simp only at sb
 obtain ⟨⟨A, n, cap, hn, st, hrow⟩, hme, hsp, hsm⟩ := hst
 obtain ⟨r, hr⟩ : ∃ r, stepAl M m a = r := ⟨_, rfl⟩
 have hgot := alFine (m := m) hm.ok hl.2 hat
 rw [hr] at hgot
 have HAL := fun W C' (h1 : MemAt W C' M m) (h2 : AlAt W C' c ba M.L a) => alloc_Step h1 h2 hl.1
 simp only [hr] at HAL
 obtain ⟨r1, m', a2⟩ := r
 have HST : Hid (stepEn M me m t ⟨short, some a, none, done⟩ = if r1 = false then (false, m', t, ⟨short, some a2, none, done⟩) else if a2.got ≠ 0 then (true, m', { t with spare := a2.got }, ⟨short, some a2, none, done⟩) else (done || t.ret.isEmpty, m', { t with spare := 0 }, ⟨done || t.ret.isEmpty, some a2, some none, done⟩)) := Lib.hid (by unfold stepEn; simp only; unfold goAl; simp only [hr])
 have HN := Lib.hid hn
 have HSM := Lib.hid hsm
 clear hn hsm hr h hpa hl hlive hgot0
 go_enter Tryz.func73, Tryz.ntmps73
 have fr := Fr.refl C (Kcs c s) LEn w
 have ag := Agr.refl w.heap.size C
 go_wp2_with fail
 refine (HAL _ _ hm hal).mono ?_; clear hm hal; rintro e w1 ⟨rfl, hm, hal, hf⟩
 revert st; revert hrow; revert sb; revert fr; refine mvf hf (Kcs_c c s) LAl_LEn ag ?_; clear hf; intro fr sb hrow st
 try dsimp only at hm hal
 cases r1
 ·skip
  go_wp2_with fail
  go_ret
  exact ⟨by rw [HST.out]; rfl, ⟨_, ag, by rw [HST.out]; exact hm, by rw [HST.out]; exact ⟨⟨⟨A, n, cap, HN.out, st, hrow⟩, hme, hsp, HSM.out⟩, ⟨_, _, sb, rfl, fun _ => ⟨ba, rfl, hal, hgot⟩⟩⟩⟩, fr⟩
 ·skip
  obtain ⟨got, at2, left2, found2, free2⟩ := a2
  have HAL2 := Lib.hid hal
  obtain ⟨sal, h1al, h2al, h3al⟩ := hal
  simp only at sal h1al h2al h3al hgot
  clear HAL2
  go_wp2_with fail
  revert sal; revert st; revert hrow; revert hm; revert sb; revert fr; refine drw ?_; intro fr sb hm hrow st sal
  obtain ⟨q1, q2, q3, qi⟩ := such3 sb st sal
  refine wp_such3 sb st sal 13 [] [0, 1, 2, 3, 4, 5, 6, 7, 8, 9, 10, 11, 12] [13] (by kernel_rfl) (by kernel_rfl) ?_
  refine wpPh_nil ?_; try simp only [ox]
  repeat (go_big_quiet_step (fail))
  refine wpQuiet_nil ?_
  refine wpTail_late _ _ _ (by kernel_rfl) ?_; try simp only [ox]
  clear qi q1 q2 q3
  by_cases hg0 : got = 0
  ·skip
   subst hg0
   obtain ⟨q, hq⟩ : ∃ q, ((n : Int) == 0) = q := ⟨_, rfl⟩
   have HQ : Hid (t.ret.isEmpty = q) := Lib.hid (by
    rw [← hq, ← HN.out]
    cases t.ret with
    | nil => rfl
    | cons z zs => exact (beq_eq_false_iff_ne.2 (by simp only [List.length_cons]; omega)).symm)
   cases done
   ·skip
    have z1 := And.intro sb (And.intro st sal)
    revert sal; revert hrow; revert hm; revert sb; revert fr; refine st1d st 3 (.int .i64 0) (Kcs_s c s) ag ?_; clear st; rintro w2 e1 fr st sb hm hrow sal
    simp only [sx] at st
    have z2 := And.intro sb (And.intro st sal)
    revert fr hm hrow sal st; refine st1 sb 1 (.bool q) (Kcs_0 c s) ag ?_; clear sb; rintro w3 e2 fr sb hm hrow sal st
    simp only [sx] at sb
    go_wp2_with fail
    try rw [e1]
    refine NoPanic.normal ?_
    go_wp2_with fail
    clear z1 e1 z2 e2
    revert ag fr hm hrow sal st sb; refine newb (store_Sweep sg M.L s C c _) ?_; rintro w4 bw C4 ag fr hsw hm hrow sal st sb
    have z3 := And.intro sb (And.intro st sal)
    revert fr hsw hm hrow sal st; refine st1 sb 3 (.pointer (some ⟨bw, 0, none⟩)) (Kcs_0 c s) ag ?_; clear sb; rintro w5 e1 fr sb hsw hm hrow sal st
    simp only [sx] at sb
    go_wp2_with fail
    clear z3 e1
    go_ret
    exact ⟨by rw [HST.out, HQ.out]; rfl, ⟨_, ag, by rw [HST.out]; exact hm, by rw [HST.out, HQ.out]; exact ⟨⟨⟨A, n, cap, HN.out, st, hrow⟩, hme, by simp, HSM.out⟩, ⟨_, _, sb, ⟨bw, rfl, hsw⟩, fun h => by cases h⟩⟩⟩, fr⟩
   ·skip
    have z1 := And.intro sb (And.intro st sal)
    revert sal; revert hrow; revert hm; revert sb; revert fr; refine st1d st 3 (.int .i64 0) (Kcs_s c s) ag ?_; clear st; rintro w2 e1 fr st sb hm hrow sal
    simp only [sx] at st
    have z2 := And.intro sb (And.intro st sal)
    revert fr hm hrow sal st; refine st1 sb 1 (.bool true) (Kcs_0 c s) ag ?_; clear sb; rintro w3 e2 fr sb hm hrow sal st
    simp only [sx] at sb
    go_wp2_with fail
    try rw [e1]
    refine NoPanic.normal ?_
    go_wp2_with fail
    clear z1 e1 z2 e2
    revert ag fr hm hrow sal st sb; refine newb (store_Sweep sg M.L s C c _) ?_; rintro w4 bw C4 ag fr hsw hm hrow sal st sb
    have z3 := And.intro sb (And.intro st sal)
    revert fr hsw hm hrow sal st; refine st1 sb 3 (.pointer (some ⟨bw, 0, none⟩)) (Kcs_0 c s) ag ?_; clear sb; rintro w5 e1 fr sb hsw hm hrow sal st
    simp only [sx] at sb
    go_wp2_with fail
    clear z3 e1
    go_ret
    exact ⟨by rw [HST.out, HQ.out]; rfl, ⟨_, ag, by rw [HST.out]; exact hm, by rw [HST.out, HQ.out]; exact ⟨⟨⟨A, n, cap, HN.out, st, hrow⟩, hme, by simp, HSM.out⟩, ⟨_, _, sb, ⟨bw, rfl, hsw⟩, fun h => by cases h⟩⟩⟩, fr⟩
  ·skip
   have dg : (got != 0) = true := bne_iff_ne.2 hg0
   have z1 := And.intro sb (And.intro st sal)
   revert fr sb hm hrow sal; refine st1d st 3 (.int .i64 got) (Kcs_s c s) ag ?_; clear st; rintro w2 e1 fr st sb hm hrow sal
   simp only [sx] at st
   go_wp2_with fail
   try rw [e1]
   refine NoPanic.normal ?_
   go_wp2_with fail
   clear z1 e1
   go_ret
   have HST' := HST.out
   simp only [if_neg (show ¬ true = false by decide), if_pos hg0] at HST'
   exact ⟨by rw [HST']; rfl, ⟨_, ag, by rw [HST']; exact hm, by rw [HST']; exact ⟨⟨⟨A, n, cap, HN.out, st, hrow⟩, hme, hgot, HSM.out⟩, ⟨_, _, sb, rfl, fun _ => ⟨ba, rfl, ⟨sal, h1al, h2al, h3al⟩, hgot⟩⟩⟩⟩, fr⟩
theorem newAl_ok {L : Ly} (hL : L.Ok) (x : Int) : (0 ≤ (newAl L x).left ∧ (newAl L x).got = 0) ∧ 1 ≤ (newAl L x).at_ ∧ (newAl L x).at_ ≤ L.nd := by
 have hnd := hL.nd
 unfold newAl
 refine ⟨⟨by simp only; omega, rfl⟩, ?_⟩
 simp only
 split
 ·rename_i h
  unfold Ly.node at h
  simp only [Bool.and_eq_true, decide_eq_true_eq] at h
  exact h
 ·omega
theorem ensure_Step3 {w : World} {C : Nat → Nat} {c s sg b : Nat} {M : ML} {m : Mm} {me : Int} {t : StS} {e : EnS}  (hm : MemAt w C M m) (hst : StAt w C s sg M.L me t) (h : EnAt w C c s sg b M.L e) (_ : t.ret.length ≤ 100000) (h0 : e.scan = none) (h1 : e.alloc = none) (h2 : t.spare = 0) : Calls Tryz.prog 73 #[.pointer (some ⟨b, 0, none⟩), .pointer (some ⟨M.b, 0, none⟩)] w (MW C c s LEn M (stepEn M me m t e).1 (stepEn M me m t e).2.1 (fun w' C' => StAt w' C' s sg M.L me (stepEn M me m t e).2.2.1 ∧ EnAt w' C' c s sg b M.L (stepEn M me m t e).2.2.2) w) := by
 obtain ⟨short, alloc, scan, done⟩ := e
 simp only at h0 h1
 subst h0 h1
 obtain ⟨pa, pw, sb, hpw, hpa⟩ := h.ex
 have hpw' : pw = .pointer none := hpw
 have hpa' : pa = .pointer none := hpa rfl
 subst hpw' hpa'
 obtain ⟨a, ha⟩ : ∃ a, newAl M.L (firstOf M.L me) = a := ⟨_, rfl⟩
 have hok := newAl_ok hm.ok (firstOf M.L me)
 have HNA := fun (C' : Nat → Nat) (W : World) => (show Calls Tryz.prog 110 #[M.L.val, .int .i64 (firstOf M.L me)] W (NewAl C' c M.L a W) from ha ▸ life_New M.L hm.ok (firstOf M.L me) C' c W)
 rw [ha] at hok
 obtain ⟨hl, hat⟩ := hok
 have HH2 := Lib.hid h2
 simp only at sb
 obtain ⟨⟨A, n, cap, hn, st, hrow⟩, hme, hsp, hsm⟩ := hst
 obtain ⟨r, hr⟩ : ∃ r, stepAl M m a = r := ⟨_, rfl⟩
 have hgot := alFine (m := m) hm.ok hl.2 hat
 rw [hr] at hgot
 have HAL := fun ba W C' (h1 : MemAt W C' M m) (h2 : AlAt W C' c ba M.L a) => alloc_Step h1 h2 hl.1
 simp only [hr] at HAL
 obtain ⟨r1, m', a2⟩ := r
 have HST : Hid (stepEn M me m t ⟨short, none, none, done⟩ = if r1 = false then (false, m', t, ⟨short, some a2, none, done⟩) else if a2.got ≠ 0 then (true, m', { t with spare := a2.got }, ⟨short, some a2, none, done⟩) else (done || t.ret.isEmpty, m', { t with spare := 0 }, ⟨done || t.ret.isEmpty, some a2, some none, done⟩)) := Lib.hid (by unfold stepEn; simp only; rw [if_neg (by rw [HH2.out]; simp), ha]; unfold goAl; simp only [hr])
 have HN := Lib.hid hn
 have HSM := Lib.hid hsm
 rw [h2] at st
 have hsp' : (0 : Int) ≤ 0 ∧ (0 : Int) ≤ 1000 := by omega
 clear hn hsm hr h hpa hl ha hpw h2
 go_enter Tryz.func73, Tryz.ntmps73
 have fr := Fr.refl C (Kcs c s) LEn w
 have ag := Agr.refl w.heap.size C
 go_wp2_with fail
 revert st; revert hrow; revert hm; revert sb; revert fr; refine drw ?_; intro fr sb hm hrow st
 obtain ⟨q1, q2, qi⟩ := such2 sb st
 refine wp_such2 sb st 13 [] [0, 1, 2, 3, 4, 5, 6, 7, 8, 9, 10, 11] [12, 13, 14, 15, 16] (by kernel_rfl) (by kernel_rfl) ?_
 refine wpPh_nil ?_; try simp only [ox]
 repeat (go_big_quiet_step (fail))
 refine wpQuiet_nil ?_
 refine wpTail_early rfl (fun K' hK' => ?_); go_simp
 ((with_reducible refine (store_first hm.ok (t := t) (me := me) ⟨⟨A, n, cap, HN.out, by rw [HH2.out]; exact st, hrow⟩, hme, hsp, HSM.out⟩).mono ?_); rintro e w1 ⟨rfl, hb1⟩)
 revert fr sb hm hrow st; refine mvb hb1 ?_; intro fr sb hm hrow st
 refine hK' _ _ (mks2 sb st) ?_; clear hK' K'
 refine wpTail_late _ _ _ (by kernel_rfl) ?_; try simp only [ox]
 clear qi q1 q2
 go_wp2_with fail
 revert ag fr sb hm hrow st; refine newb (HNA C _) ?_; rintro w2 ba C2 ag fr hal sb hm hrow st
 replace HAL := HAL ba
 have z1 := And.intro sb st
 revert fr hal hm hrow st; refine st1 sb 2 (.pointer (some ⟨ba, 0, none⟩)) (Kcs_0 c s) ag ?_; clear sb; rintro w3 e1 fr sb hal hm hrow st
 simp only [sx] at sb
 go_wp2_with fail
 refine NoPanic.normal ?_
 go_wp2_with fail
 clear z1 e1
 go_wp2_with fail
 refine (HAL _ _ hm hal).mono ?_; clear hm hal; rintro e w4 ⟨rfl, hm, hal, hf⟩
 revert fr hrow st sb; refine mvf hf (Kcs_c c s) LAl_LEn ag ?_; clear hf; intro fr hrow st sb
 try dsimp only at hm hal
 cases r1
 ·skip
  go_wp2_with fail
  go_ret
  exact ⟨by rw [HST.out]; rfl, ⟨_, ag, by rw [HST.out]; exact hm, by rw [HST.out]; exact ⟨⟨⟨A, n, cap, HN.out, by rw [← HH2.out] at st; exact st, hrow⟩, hme, hsp, HSM.out⟩, ⟨_, _, sb, rfl, fun _ => ⟨ba, rfl, hal, hgot⟩⟩⟩⟩, fr⟩
 ·skip
  obtain ⟨got, at2, left2, found2, free2⟩ := a2
  have HAL2 := Lib.hid hal
  obtain ⟨sal, h1al, h2al, h3al⟩ := hal
  simp only at sal h1al h2al h3al hgot
  clear HAL2
  go_wp2_with fail
  revert sal; revert st; revert hrow; revert hm; revert sb; revert fr; refine drw ?_; intro fr sb hm hrow st sal
  obtain ⟨q1, q2, q3, qi⟩ := such3 sb st sal
  refine wp_such3 sb st sal 13 [] [0, 1, 2, 3, 4, 5, 6, 7, 8, 9, 10, 11, 12] [13] (by kernel_rfl) (by kernel_rfl) ?_
  refine wpPh_nil ?_; try simp only [ox]
  repeat (go_big_quiet_step (fail))
  refine wpQuiet_nil ?_
  refine wpTail_late _ _ _ (by kernel_rfl) ?_; try simp only [ox]
  clear qi q1 q2 q3
  by_cases hg0 : got = 0
  ·skip
   subst hg0
   obtain ⟨q, hq⟩ : ∃ q, ((n : Int) == 0) = q := ⟨_, rfl⟩
   have HQ : Hid (t.ret.isEmpty = q) := Lib.hid (by
    rw [← hq, ← HN.out]
    cases t.ret with
    | nil => rfl
    | cons z zs => exact (beq_eq_false_iff_ne.2 (by simp only [List.length_cons]; omega)).symm)
   cases done
   ·skip
    have z2 := And.intro sb (And.intro st sal)
    revert sal; revert hrow; revert hm; revert sb; revert fr; refine st1d st 3 (.int .i64 0) (Kcs_s c s) ag ?_; clear st; rintro w5 e1 fr st sb hm hrow sal
    simp only [sx] at st
    have z3 := And.intro sb (And.intro st sal)
    revert fr hm hrow sal st; refine st1 sb 1 (.bool q) (Kcs_0 c s) ag ?_; clear sb; rintro w6 e2 fr sb hm hrow sal st
    simp only [sx] at sb
    go_wp2_with fail
    try rw [e1]
    refine NoPanic.normal ?_
    go_wp2_with fail
    clear z2 e1 z3 e2
    revert ag fr hm hrow sal st sb; refine newb (store_Sweep sg M.L s C2 c _) ?_; rintro w7 bw C7 ag fr hsw hm hrow sal st sb
    have z4 := And.intro sb (And.intro st sal)
    revert fr hsw hm hrow sal st; refine st1 sb 3 (.pointer (some ⟨bw, 0, none⟩)) (Kcs_0 c s) ag ?_; clear sb; rintro w8 e1 fr sb hsw hm hrow sal st
    simp only [sx] at sb
    go_wp2_with fail
    clear z4 e1
    go_ret
    exact ⟨by rw [HST.out, HQ.out]; rfl, ⟨_, ag, by rw [HST.out]; exact hm, by rw [HST.out, HQ.out]; exact ⟨⟨⟨A, n, cap, HN.out, st, hrow⟩, hme, by simp, HSM.out⟩, ⟨_, _, sb, ⟨bw, rfl, hsw⟩, fun h => by cases h⟩⟩⟩, fr⟩
   ·skip
    have z2 := And.intro sb (And.intro st sal)
    revert sal; revert hrow; revert hm; revert sb; revert fr; refine st1d st 3 (.int .i64 0) (Kcs_s c s) ag ?_; clear st; rintro w5 e1 fr st sb hm hrow sal
    simp only [sx] at st
    have z3 := And.intro sb (And.intro st sal)
    revert fr hm hrow sal st; refine st1 sb 1 (.bool true) (Kcs_0 c s) ag ?_; clear sb; rintro w6 e2 fr sb hm hrow sal st
    simp only [sx] at sb
    go_wp2_with fail
    try rw [e1]
    refine NoPanic.normal ?_
    go_wp2_with fail
    clear z2 e1 z3 e2
    revert ag fr hm hrow sal st sb; refine newb (store_Sweep sg M.L s C2 c _) ?_; rintro w7 bw C7 ag fr hsw hm hrow sal st sb
    have z4 := And.intro sb (And.intro st sal)
    revert fr hsw hm hrow sal st; refine st1 sb 3 (.pointer (some ⟨bw, 0, none⟩)) (Kcs_0 c s) ag ?_; clear sb; rintro w8 e1 fr sb hsw hm hrow sal st
    simp only [sx] at sb
    go_wp2_with fail
    clear z4 e1
    go_ret
    exact ⟨by rw [HST.out, HQ.out]; rfl, ⟨_, ag, by rw [HST.out]; exact hm, by rw [HST.out, HQ.out]; exact ⟨⟨⟨A, n, cap, HN.out, st, hrow⟩, hme, by simp, HSM.out⟩, ⟨_, _, sb, ⟨bw, rfl, hsw⟩, fun h => by cases h⟩⟩⟩, fr⟩
  ·skip
   have dg : (got != 0) = true := bne_iff_ne.2 hg0
   have z2 := And.intro sb (And.intro st sal)
   revert fr sb hm hrow sal; refine st1d st 3 (.int .i64 got) (Kcs_s c s) ag ?_; clear st; rintro w5 e1 fr st sb hm hrow sal
   simp only [sx] at st
   go_wp2_with fail
   try rw [e1]
   refine NoPanic.normal ?_
   go_wp2_with fail
   clear z2 e1
   go_ret
   have HST' := HST.out
   simp only [if_neg (show ¬ true = false by decide), if_pos hg0] at HST'
   exact ⟨by rw [HST']; rfl, ⟨_, ag, by rw [HST']; exact hm, by rw [HST']; exact ⟨⟨⟨A, n, cap, HN.out, st, hrow⟩, hme, hgot, HSM.out⟩, ⟨_, _, sb, rfl, fun _ => ⟨ba, rfl, ⟨sal, h1al, h2al, h3al⟩, hgot⟩⟩⟩⟩, fr⟩
theorem ensure_Step4 {w : World} {C : Nat → Nat} {c s sg b : Nat} {M : ML} {m : Mm} {me : Int} {t : StS} {e : EnS}  (hm : MemAt w C M m) (hst : StAt w C s sg M.L me t) (h : EnAt w C c s sg b M.L e) (_ : t.ret.length ≤ 100000) (h0 : e.scan = none) (h1 : e.alloc = none) (h2 : t.spare ≠ 0) : Calls Tryz.prog 73 #[.pointer (some ⟨b, 0, none⟩), .pointer (some ⟨M.b, 0, none⟩)] w (MW C c s LEn M (stepEn M me m t e).1 (stepEn M me m t e).2.1 (fun w' C' => StAt w' C' s sg M.L me (stepEn M me m t e).2.2.1 ∧ EnAt w' C' c s sg b M.L (stepEn M me m t e).2.2.2) w) := by
 have HE := Lib.hid h
 have HSTT := Lib.hid hst
 obtain ⟨short, alloc, scan, done⟩ := e
 simp only at h0 h1
 subst h0 h1
 obtain ⟨pa, pw, sb, hpw, hpa⟩ := h.ex
 have hpw' : pw = .pointer none := hpw
 have hpa' : pa = .pointer none := hpa rfl
 subst hpw' hpa'
 obtain ⟨⟨A, n, cap, hn, st, hrow⟩, -, -, -⟩ := hst
 have HST : Hid (stepEn M me m t ⟨short, none, none, done⟩ = (true, m, t, ⟨short, none, none, done⟩)) := Lib.hid (by unfold stepEn; simp only; rw [if_pos h2])
 have dg : (t.spare != 0) = true := bne_iff_ne.2 h2
 simp only at sb
 have hc := sb.blk.cells
 have hc2 := st.blk.cells
 clear hn h hpa hpw h2 hrow
 go_enter Tryz.func73, Tryz.ntmps73
 go_wp2_with fail
 refine (mem_Load hm 0).mono ?_
 rintro e w2 ⟨rfl, hm2, hf2⟩
 go_wp2_with fail
 go_ret
 exact ⟨by rw [HST.out]; rfl, ⟨C, Agr.refl _ _, by rw [HST.out]; exact hm2, by rw [HST.out]; exact ⟨HSTT.out.fr hf2 (.inr (by decide)), HE.out.fr hf2 (.inr (by decide))⟩⟩, hf2.mono (Kcs_mem c s) LM_LEn⟩
theorem ensure_Step {w : World} {C : Nat → Nat} {c s sg b : Nat} {M : ML} {m : Mm} {me : Int} {t : StS} {e : EnS}  (hm : MemAt w C M m) (hst : StAt w C s sg M.L me t) (h : EnAt w C c s sg b M.L e) (hle : t.ret.length ≤ 100000) (hlive : e.Live) : Calls Tryz.prog 73 #[.pointer (some ⟨b, 0, none⟩), .pointer (some ⟨M.b, 0, none⟩)] w (MW C c s LEn M (stepEn M me m t e).1 (stepEn M me m t e).2.1 (fun w' C' => StAt w' C' s sg M.L me (stepEn M me m t e).2.2.1 ∧ EnAt w' C' c s sg b M.L (stepEn M me m t e).2.2.2) w) := by
 cases h0 : e.scan with
 | some x => exact ensure_Step1 hm hst h hle h0
 | none =>
  cases h1 : e.alloc with
  | some a => exact ensure_Step2 hm hst h hle hlive h0 h1
  | none =>
   by_cases h2 : t.spare = 0
   ·exact ensure_Step3 hm hst h hle h0 h1 h2
   ·exact ensure_Step4 hm hst h hle h0 h1 h2
def Nodes (L : Ly) (l : List Int) : Prop := ∀ x ∈ l, 1 ≤ x ∧ x ≤ L.nd
theorem Nodes.app {L : Ly} {a b : List Int} (h : Nodes L a) (k : Nodes L b) : Nodes L (a ++ b) := fun x hx => (List.mem_append.1 hx).elim (h x) (k x)
theorem Nodes.filter {L : Ly} {a : List Int} (h : Nodes L a) (p : Int → Bool) : Nodes L (a.filter p) := fun x hx => h x (List.mem_filter.1 hx).1
structure AlOk (L : Ly) (a : AlS) : Prop where
 at_ : 1 ≤ a.at_ ∧ a.at_ ≤ L.nd
 left : 0 ≤ a.left
 got : a.got = 0
theorem al_new {L : Ly} (hL : L.Ok) (x : Int) : AlOk L (newAl L x) := by
 have h := newAl_ok hL x
 exact ⟨h.2, h.1.1, h.1.2⟩
theorem al_step {M : ML} {m : Mm} {a : AlS} (hL : M.L.Ok) (hm : MOk M m) (h : AlOk M.L a) : Safe M m (stepAl M m a).2.1 ∧ ((stepAl M m a).1 = false → AlOk M.L (stepAl M m a).2.2) ∧ (0 ≤ (stepAl M m a).2.2.got ∧ (stepAl M m a).2.2.got ≤ M.L.nd) := by
 obtain ⟨h1, h2, h3⟩ := h
 have hnd := hL.nd
 have hmod := Int.emod_lt_of_pos a.at_ (show 0 < M.L.nd by omega)
 have hmod0 := Int.emod_nonneg a.at_ (show M.L.nd ≠ 0 by omega)
 unfold stepAl
 split
 ·split
  ·exact ⟨safe_casL hm hL h1, fun h => by simp at h, by simp only; omega⟩
  ·refine ⟨.refl hm, fun h => ?_, by simp only [AlS.on]; omega⟩
   simp only [decide_eq_false_iff_not] at h
   exact ⟨by simp only [AlS.on]; omega, by simp only [AlS.on]; omega, h3⟩
 ·split
  ·exact ⟨.refl hm, fun _ => ⟨h1, h2, h3⟩, by simp only; omega⟩
  ·refine ⟨.refl hm, fun h => ?_, by simp only [AlS.on]; omega⟩
   simp only [decide_eq_false_iff_not] at h
   exact ⟨by simp only [AlS.on]; omega, by simp only [AlS.on]; omega, h3⟩
theorem gv_step {M : ML} {m : Mm} {l : List Int} (hL : M.L.Ok) (hm : MOk M m) (h : Nodes M.L l) : Safe M m (stepGv M m l).2.1 ∧ Nodes M.L (stepGv M m l).2.2 := by
 cases l with
 | nil => exact ⟨.refl hm, h⟩
 | cons x r => exact ⟨safe_add hm hL (h x (List.mem_cons_self ..)), fun y hy => h y (List.mem_cons_of_mem _ hy)⟩
structure ScOk (L : Ly) (s : ScS) : Prop where
 nodes : Nodes L s.nodes
 kept : Nodes L s.kept
 give : Nodes L s.give
 len : s.kept.length ≤ s.nodes.length
theorem sc_new {L : Ly} {l : List Int} (h : Nodes L l) : ScOk L (.new l) := ⟨h, fun x hx => by simp [ScS.new] at hx, fun x hx => by simp [ScS.new] at hx, by simp [ScS.new]⟩
theorem sc_step {M : ML} {m : Mm} {s : ScS} (hL : M.L.Ok) (hm : MOk M m) (h : ScOk M.L s) : Safe M m (stepSc M m s).2.1 ∧ ScOk M.L (stepSc M m s).2.2 ∧ (stepSc M m s).2.2.nodes = s.nodes := by
 obtain ⟨h1, h2, h3, h4⟩ := h
 unfold stepSc
 split
 ·have := gv_step hL hm h3
  exact ⟨this.1, ⟨h1, h2, this.2, h4⟩, rfl⟩
 ·split
  ·exact ⟨.refl hm, ⟨h1, h1.filter _, h1.filter _, List.length_filter_le _ _⟩, rfl⟩
  ·exact ⟨.refl hm, ⟨h1, h2, h3, h4⟩, rfl⟩
structure StOk (L : Ly) (t : StS) (N : Int) : Prop where
 spare : 0 ≤ t.spare ∧ t.spare ≤ L.nd
 ret : Nodes L t.ret
 len : (t.ret.length : Int) ≤ N
theorem StOk.mono {L : Ly} {t : StS} {N N' : Int} (h : StOk L t N) (hN : N ≤ N') : StOk L t N' := ⟨h.spare, h.ret, Int.le_trans h.len hN⟩
def SwOk (L : Ly) (x : SwS) (N : Int) : Prop := ∀ s, x = some s → ScOk L s ∧ (s.nodes.length : Int) ≤ N
theorem sw_step {M : ML} {m : Mm} {t : StS} {x : SwS} {N : Int} (hL : M.L.Ok) (hm : MOk M m) (ht : StOk M.L t N) (h : SwOk M.L x N) : Safe M m (stepSw M m t x).2.1 ∧ StOk M.L (stepSw M m t x).2.2.1 N ∧ SwOk M.L (stepSw M m t x).2.2.2 N ∧ (stepSw M m t x).2.2.1.spare = t.spare := by
 have key : ScOk M.L (x.getD (.new t.ret)) ∧ ((x.getD (.new t.ret)).nodes.length : Int) ≤ N := by
  cases x with
  | none => exact ⟨sc_new ht.ret, ht.len⟩
  | some s => exact h s rfl
 have hs := sc_step hL hm key.1
 unfold stepSw
 simp only
 refine ⟨hs.1, ?_, fun s hs2 => ?_, ?_⟩
 ·split
  ·refine ⟨ht.spare, hs.2.1.kept, ?_⟩
   have h1 := hs.2.1.len
   rw [hs.2.2] at h1
   have h2 := key.2
   simp only
   omega
  ·exact ht
 ·injection hs2 with hs2
  subst hs2
  exact ⟨hs.2.1, by rw [hs.2.2]; exact key.2⟩
 ·split <;> rfl
structure EnOk (L : Ly) (e : EnS) (N : Int) : Prop where
 alloc : ∀ a, e.scan = none → e.alloc = some a → AlOk L a
 scan : ∀ x, e.scan = some x → SwOk L x N
theorem EnOk.live {L : Ly} {e : EnS} {N : Int} (h : EnOk L e N) : e.Live := fun a h1 h2 => ⟨(h.alloc a h1 h2).left, (h.alloc a h1 h2).got⟩
theorem SwOk.mono {L : Ly} {x : SwS} {N N' : Int} (h : SwOk L x N) (hN : N ≤ N') : SwOk L x N' := fun s hs => ⟨(h s hs).1, Int.le_trans (h s hs).2 hN⟩
theorem EnOk.mono {L : Ly} {e : EnS} {N N' : Int} (h : EnOk L e N) (hN : N ≤ N') : EnOk L e N' := ⟨h.alloc, fun x hx => (h.scan x hx).mono hN⟩
theorem en_new (L : Ly) (N : Int) : EnOk L .new N := ⟨fun a _ h => by simp [EnS.new] at h, fun x h => by simp [EnS.new] at h⟩
theorem goAl_step {M : ML} {m : Mm} {t : StS} {e : EnS} {a : AlS} {N : Int} (hL : M.L.Ok) (hm : MOk M m) (ht : StOk M.L t N) (hs : e.scan = none) (h : AlOk M.L a) : Safe M m (goAl M m t e a).2.1 ∧ StOk M.L (goAl M m t e a).2.2.1 N ∧ ((goAl M m t e a).1 = false → EnOk M.L (goAl M m t e a).2.2.2 N) := by
 have hn := hL.nd
 have ha := al_step hL hm h
 unfold goAl
 simp only
 split
 ·rename_i h1
  exact ⟨ha.1, ht, fun _ => ⟨fun b _ hb => by injection hb with hb; subst hb; exact ha.2.1 h1, fun x hx => by rw [hs] at hx; cases hx⟩⟩
 ·split
  ·exact ⟨ha.1, ⟨ha.2.2, ht.ret, ht.len⟩, fun h => by simp at h⟩
  ·exact ⟨ha.1, ⟨by simp only; omega, ht.ret, ht.len⟩, fun _ => ⟨fun b hb _ => by simp at hb, fun x hx => by injection hx with hx; subst hx; exact fun s h => by cases h⟩⟩
theorem en_step {M : ML} {me : Int} {m : Mm} {t : StS} {e : EnS} {N : Int} (hL : M.L.Ok) (hm : MOk M m) (ht : StOk M.L t N) (h : EnOk M.L e N) : Safe M m (stepEn M me m t e).2.1 ∧ StOk M.L (stepEn M me m t e).2.2.1 N ∧ ((stepEn M me m t e).1 = false → EnOk M.L (stepEn M me m t e).2.2.2 N) := by
 unfold stepEn
 cases hs : e.scan with
 | some x =>
  have hw := sw_step hL hm ht (h.scan x hs)
  simp only
  split
  ·exact ⟨hw.1, hw.2.1, fun _ => ⟨fun a h1 => by simp at h1, fun y hy => by injection hy with hy; subst hy; exact hw.2.2.1⟩⟩
  ·exact ⟨hw.1, hw.2.1, fun _ => ⟨fun a _ h1 => by simp at h1, fun y hy => by simp at hy⟩⟩
 | none =>
  simp only
  cases ha : e.alloc with
  | none =>
   simp only
   split
   ·exact ⟨.refl hm, ht, fun h => by simp at h⟩
   ·exact goAl_step hL hm ht hs (al_new hL _)
  | some a => exact goAl_step hL hm ht hs (h.alloc a hs ha)
structure PrOk (L : Ly) (p : PrS) : Prop where
 key : 0 ≤ p.key ∧ p.key ≤ 1023
 next : 0 ≤ p.next ∧ p.next ≤ L.nd
theorem pr_word {L : Ly} {p : PrS} (hL : L.Ok) (h : PrOk L p) : (getW p.word).next ≤ L.nd := by
 have hn := hL.nd
 have hk := h.key
 have hx := h.next
 have hv := (getW_fit p.found).ver
 unfold PrS.word
 have hf : (⟨p.key, 0, false, 0, (getW p.found).ver⟩ : Wd).Fit := ⟨by simp only; omega, by simp, by simp, hv⟩
 rw [getW_putW (Wd.link_fit hf (by omega))]
 exact hx.2
theorem pr_step {M : ML} {m : Mm} {t : StS} {p : PrS} {N : Int} (hL : M.L.Ok) (hm : MOk M m) (ht : StOk M.L t N) (h : PrOk M.L p) : Safe M m (stepPr M m t p).2.1 ∧ PrOk M.L (stepPr M m t p).2.2 := by
 have hn := hL.nd
 have hsp := ht.spare
 unfold stepPr
 split
 ·exact ⟨.refl hm, h.key, h.next⟩
 ·exact ⟨safe_word hm (putW_rng64 _) hL (by omega) (pr_word hL h), h⟩
structure ClOk (L : Ly) (c : ClS) : Prop where
 addr : 1 ≤ c.addr ∧ c.addr ≤ L.nd + 4
 at_ : 0 ≤ c.at_ ∧ c.at_ ≤ 3
 thr : 1 ≤ c.at_ → 0 ≤ thr c.word ∧ thr c.word < L.th
 next : 1 ≤ c.at_ → (getW c.word).next ≤ L.nd
 prop : c.at_ = 2 → (getD' c.found).status = 2 ∧ DVal L c.found
theorem cl_new {L : Ly} {a : Int} (h : 1 ≤ a ∧ a ≤ L.nd + 4) : ClOk L (.new a) := ⟨h, by simp [ClS.new], fun h => by simp [ClS.new] at h, fun h => by simp [ClS.new] at h, fun h => by simp [ClS.new] at h⟩
theorem free_next (x : Int) : (getW (putW (getW x).free)).next = (getW x).next := by rw [getW_putW (Wd.free_fit (getW_fit x))]; rfl
theorem cl_step {M : ML} {m : Mm} {c : ClS} (hL : M.L.Ok) (hm : MOk M m) (h : ClOk M.L c) : Safe M m (stepCl M m c).2.1 ∧ ((stepCl M m c).1 = false → ClOk M.L (stepCl M m c).2.2) := by
 have hn := hL.nd
 obtain ⟨h1, h2, h3, h4, h5⟩ := h
 unfold stepCl
 split
 ·refine ⟨.refl hm, fun h => ?_⟩
  simp only [Bool.or_eq_false_iff, decide_eq_false_iff_not] at h
  exact ⟨h1, by simp, fun _ => by simp only; omega, fun _ => hm.word _ h1.1 h1.2, fun e => by simp at e⟩
 ·split
  ·rename_i h0 h6
   have ht := h3 (by omega)
   refine ⟨.refl hm, fun _ => ⟨h1, by simp only; split <;> omega, fun _ => ht, fun _ => h4 (by omega), fun e => ?_⟩⟩
   refine ⟨?_, hm.desc _ ht.1 ht.2⟩
   simp only at e ⊢
   split at e
   ·rename_i ho
    unfold ClS.open_ at ho
    simp only [Bool.and_eq_true, decide_eq_true_eq] at ho
    omega
   ·omega
  ·split
   ·rename_i h0 h6 h7
    have ht := h3 (by omega)
    have hp := h5 h7
    exact ⟨safe_casD hm (putD_rng64 _) hL ht (dpath_with hp.2 hp.1 3 (.inl rfl)), fun _ => ⟨h1, by simp, fun _ => ht, fun _ => h4 (by omega), fun e => by simp at e⟩⟩
   ·refine ⟨safe_casW hm (putW_rng64 _) hL (by omega) ?_, fun h => by simp at h⟩
    rw [free_next]
    exact h4 (by omega)
end Go.Proofs.YtbcnnhlpilmmbaaGreat
