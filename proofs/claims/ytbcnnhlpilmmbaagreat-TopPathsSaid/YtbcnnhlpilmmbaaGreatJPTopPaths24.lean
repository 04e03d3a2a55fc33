/- Texts that are wanted for PTopPaths.
   Conditions: none. -/
import Derived.Test.YtbcnnhlpilmmbaaGreatJPTopPaths23
set_option maxRecDepth 100000
set_option maxHeartbeats 6400000
namespace Go.Proofs.YtbcnnhlpilmmbaaGreat
open Go Go.RowKit
theorem Row.put {w : World} {C : Nat → Nat} {c g n cap : Nat} {xs : List Int} (h : Row w C c 3 1 (.slice (some ⟨g, 0, none⟩) n cap) n (ivs xs)) (i : Nat) (_ : i < n) (v : Int) : Row (w.setCell ⟨g, i, none⟩ (.int .i64 v)) C c 3 1 (.slice (some ⟨g, 0, none⟩) n cap) n (ivs (xs.set i v)) := by
 refine ⟨⟨by simpa [ivs] using h.own.1, ?_⟩, h.col⟩
 rcases h.own.2 with ⟨h0, -⟩ | ⟨g', cap', cur, hv, hb, hg, hnc, hcm, hcs, htk⟩
 ·injection h0 with h0; cases h0
 ·injection hv with hv1 hv2 hv3
  injection hv1 with hv1
  injection hv1 with hv1
  subst hv1 hv3
  refine .inr ⟨g, cap, cur.setIfInBounds i (.int .i64 v), rfl, hb, Blk.set_ (t := 3) hg i _, hnc, hcm, by simpa using hcs, ?_⟩
  rw [Array.toList_setIfInBounds, List.take_set, htk]
  simp [ivs, List.map_set]
theorem Row.blk_ {w : World} {C : Nat → Nat} {c g n cap : Nat} {xs : List Int} (h : Row w C c 3 1 (.slice (some ⟨g, 0, none⟩) n cap) n (ivs xs)) : ∃ cur, SB w C c g 3 cur ∧ ∀ i, i < n → cur[i]? = (ivs xs)[i]? := by
 obtain ⟨-, cs, hb⟩ := own_at h.own g rfl
 refine ⟨cs, SB.mk hb (h.col g rfl), fun i hi => ?_⟩
 have h1 := (Sl.of_own h.own).cell i (by omega)
 rw [← hb.cell i]; simpa [ablk, aoff] using h1
def WkS.stop (x : WkS) (r : Bool × Mm × StS × DoS) : WkS := if r.1 then { x with st := r.2.2.1, now := none, ended := x.ended + 1 } else { x with st := r.2.2.1, now := some r.2.2.2 }
def Rsl.val_ (r : Rsl) : Value := .agg #[.int .i64 r.code, .bool r.ok, .int .i64 r.val]
def WkS.tells (r : Bool × Mm × StS × DoS) : Rsl := if r.1 then r.2.2.2.res else ⟨0, false, 0⟩
structure WsW (C : Nat → Nat) (c s k q sg b : Nat) (M : ML) (me : Int) (x : WkS) (r : Bool × Mm × StS × DoS) (w : World) (e : Ending) (w' : World) : Prop where
 ret : e = .returned (.tuple #[(WkS.tells r).val_, .bool r.1])
 own : ∃ C', Agr w.heap.size C C' ∧ MemAt w' C' M r.2.1 ∧ WkAt w' C' c s k q sg b M.L me (x.stop r)
 fr : Fr C (Kw c s k q) LWk w w'
theorem worker_step_no {w : World} {C : Nat → Nat} {c s k q sg b : Nat} {M : ML} {m : Mm} {me : Int} {x : WkS} {d : DoS} (hm : MemAt w C M m) (h : WkAt w C c s k q sg b M.L me x) (hnow : x.now = some d) (hlt : x.ended < x.tasks.length) (hf : d.Fine M m x.st)
  (hcs : c ≠ s) (hs1 : s ≠ 1) (hkc : k ≠ c) (hks : k ≠ s) (hk1 : k ≠ 1) (hkq : k ≠ q) (hqc : q ≠ c) (hqs : q ≠ s) (hq1 : q ≠ 1) (hq : (stepDo M me m x.st d).1 = false) : Calls Tryz.prog 33 #[.pointer (some ⟨b, 0, none⟩), .pointer (some ⟨M.b, 0, none⟩)] w (WsW C c s k q sg b M me x (stepDo M me m x.st d) w) := by
 obtain ⟨hst, A, n, cap, pn, tv, lv, ⟨sb, hlen, hsm, hle, hsr, ⟨n1, xs, hrow, hxl, hn1⟩, ⟨n2, ys, hslow, hyl, hn2⟩⟩, hpn⟩ := h
 obtain ⟨stt, tasks, en, now⟩ := x
 simp only at hst sb hlen hle hsr hn1 hn2 hpn hnow hlt hf hq ⊢
 subst hnow
 obtain ⟨bd, rfl, hdo⟩ := hpn
 simp only [Option.isSome_some, if_true] at hn1
 obtain ⟨A1, cap1, rfl, hnc, hnil, hA1⟩ := hrow.form
 obtain ⟨a1, rfl⟩ : ∃ a1, A1 = some a1 := by
  cases A1 with
  | none => exact absurd (hnil rfl).1 (by omega)
  | some a1 => exact ⟨a1, rfl⟩
 obtain ⟨g1, hg1⟩ : ∃ g1, a1 = ⟨g1, 0, none⟩ := ⟨_, hA1 a1 rfl⟩
 subst hg1
 have hi1 : en < n1 := by omega
 have hL1 : en + 1 ≤ n := by omega
 have hL2 : n2 ≤ en + 1 := by omega
 have hL3 : n2 + 1 ≤ en + 1 := by omega
 obtain ⟨cur, tkb, hcur⟩ := hrow.blk_
 obtain ⟨t0, ht0⟩ : ∃ t0, xs[en]? = some t0 := ⟨_, List.getElem?_eq_getElem (by omega)⟩
 have f0 : cur[en]? = some (.int .i64 t0) := by rw [hcur en hi1, ivs_at, ht0]; rfl
 have hidx := (Sl.of_own hrow.own).idx (P := Tryz.prog) (c := cap1) Tryz.underlying89 intSzT hi1
 simp only [ablk, aoff, Option.map_some, Option.getD_some, Nat.zero_add, Nat.mul_one] at hidx
 have hps := hrow.put en hi1 (wrap64 (t0 + 1))
 have hDO := fun W C' (k1 : MemAt W C' M m) (k2 : StAt W C' s sg M.L me stt) (k3 : DoAt W C' c s sg bd M.L me d) => do_Step hcs hs1 k1 k2 k3 hf
 obtain ⟨r, hr⟩ : ∃ r, stepDo M me m stt d = r := ⟨_, rfl⟩
 simp only [hr] at hDO hq ⊢
 obtain ⟨r1, m', t2, d2⟩ := r
 simp only at hq
 subst hq
 have HKc : ¬ K0 k c := fun e => hkc e.symm
 have HKs : ¬ K0 k s := fun e => hks e.symm
 have HKq : ¬ K0 k q := fun e => hkq e.symm
 have HQk : ¬ K0 q k := fun e => hkq e
 have HQc : ¬ K0 q c := fun e => hqc e.symm
 have HQs : ¬ K0 q s := fun e => hqs e.symm
 have HCk : ¬ Kcs c s k := fun e => e.elim hkc (fun e => e.elim hks hk1)
 have HCq : ¬ Kcs c s q := fun e => e.elim hqc (fun e => e.elim hqs hq1)
 have HN := Lib.hid hn1
 have HX := Lib.hid hxl
 have hnn : n2 ≤ 100000 := by omega
 clear hr hcur hn1 hxl hnc hnil hA1 ht0 hf hlt hps
 go_enter Tryz.func33, Tryz.ntmps33
 have fr := Fr.refl C (Kw c s k q) LWk w
 have ag := Agr.refl w.heap.size C
 have z1 := And.intro sb tkb
 revert tkb; revert hdo; revert hsr; revert hslow; revert hrow; revert hst; revert hm; revert sb; revert fr; refine bx1 49 #[.int .i64 0, .bool false, .int .i64 0] ?_; rintro w1 erc lrc fr rc sb hm hst hrow hslow hsr hdo tkb
 go_wp2_with fail
 clear erc z1
 revert fr rc sb hm hst hrow hslow hsr hdo tkb; refine drw ?_; intro fr rc sb hm hst hrow hslow hsr hdo tkb
 obtain ⟨q1, q2, qi⟩ := such2 sb tkb
 refine wp_such2 sb tkb 12 [] [0, 1, 2, 3, 4, 5, 6, 7, 8, 9, 10, 11] [12] (by kernel_rfl) (by kernel_rfl) ?_
 refine wpPh_nil ?_; try simp only [ox]
 repeat (go_big_quiet_step (fail))
 refine wpQuiet_nil ?_
 refine wpTail_late _ _ _ (by kernel_rfl) ?_; try simp only [ox]
 clear qi q1 q2
 have hf' := tkb.fr1 en (.int .i64 (wrap64 (t0 + 1)))
 have hsv : SB (w1.setCell ⟨g1, en, none⟩ (.int .i64 (wrap64 (t0 + 1)))).drew C k b 91 #[.pointer (some ⟨sg, 0, none⟩), .slice A n cap, .int .i64 (en : Int), .pointer (some ⟨bd, 0, none⟩), .slice (some ⟨g1, 0, none⟩) n1 cap1, lv] := sb.fr hf' (.inr (by decide))
 have hc_s := hsv.blk.cells
 have hfz_s := hsv.blk.frees
 go_wp2_with fail
 clear hc_s hfz_s
 replace sb := hsv
 clear hsv
 replace fr := fr.trans (hf'.mono (Kw_k c s k q) (by decide)) ag
 replace hst := hst.fr hf' (.inl HKs)
 replace hrow := hrow.put en hi1 (wrap64 (t0 + 1))
 replace hslow := hslow.fr hf' (.inl HKq)
 replace hsr := hsr.fr hf' (.inr (by decide))
 replace hdo := hdo.fr hf' (.inl ⟨HKc, HKs⟩)
 replace rc := rc.fr hf' (.inr (by decide))
 replace hm := hm.fr hf' (.inl (fun e => hk1 e.symm))
 clear hf' tkb f0
 rw [drew_set] at fr hst hrow hslow hsr hdo rc hm
 generalize (w1.setCell ⟨g1, en, none⟩ (.int .i64 (wrap64 (t0 + 1)))).drew = w2 at *
 refine NoPanic.normal ?_
 go_wp2_with fail
 refine (hDO _ _ hm hst hdo).mono ?_; clear hm hst hdo; rintro e w3 ⟨rfl, ⟨C3, aG, hm, hst, hdo⟩, hf⟩
 replace hrow := hrow.mv hf aG (.inl HCk)
 replace hslow := hslow.mv hf aG (.inl HCq)
 revert rc; revert hsr; revert sb; revert fr; revert ag; refine mvm hf aG (Kw_cs c s k q) LDo_LWk ?_; clear hf aG; intro ag fr sb hsr rc
 try dsimp only at hm hst hdo
 have z2 := And.intro sb rc
 have hR := stR
 revert hdo; revert hsr; revert hslow; revert hrow; revert hst; revert hm; revert sb; revert fr; refine stsn rc [(0, .int .i64 0), (1, .bool false), (2, .int .i64 0)] ?_; clear rc; rintro w4 e1 fr rc sb hm hst hrow hslow hsr hdo
 simp only [stx, sx] at e1 rc
 go_wp2_with fail
 clear z2 e1 hR
 refine bodyPost_ret (v := .tuple #[(WkS.tells (false, m', t2, d2)).val_, .bool false]) (by simp [results, Tryz.results33, go_sem, rc.1, WkS.tells, Rsl.val_]) rfl ⟨rfl, ⟨_, ag, hm, ?_⟩, fr⟩
 exact ⟨hst, A, n, cap, _, _, lv, ⟨sb, hlen, hsm, hle, hsr, ⟨n1, xs.set en (wrap64 (t0 + 1)), hrow, by simp [HX.out], by have := HN.out; simp [WkS.stop] at this ⊢; omega⟩, ⟨n2, ys, hslow, hyl, hn2⟩⟩, bd, rfl, hdo⟩
theorem worker_step_fast {w : World} {C : Nat → Nat} {c s k q sg b : Nat} {M : ML} {m : Mm} {me : Int} {x : WkS} {d : DoS} (hm : MemAt w C M m) (h : WkAt w C c s k q sg b M.L me x) (hnow : x.now = some d) (hlt : x.ended < x.tasks.length) (hf : d.Fine M m x.st)
  (hcs : c ≠ s) (hs1 : s ≠ 1) (hkc : k ≠ c) (hks : k ≠ s) (hk1 : k ≠ 1) (hkq : k ≠ q) (hqc : q ≠ c) (hqs : q ≠ s) (hq1 : q ≠ 1) (hq : (stepDo M me m x.st d).1 = true) (hsl : (stepDo M me m x.st d).2.2.2.slow = false) : Calls Tryz.prog 33 #[.pointer (some ⟨b, 0, none⟩), .pointer (some ⟨M.b, 0, none⟩)] w (WsW C c s k q sg b M me x (stepDo M me m x.st d) w) := by
 obtain ⟨hst, A, n, cap, pn, tv, lv, ⟨sb, hlen, hsm, hle, hsr, ⟨n1, xs, hrow, hxl, hn1⟩, ⟨n2, ys, hslow, hyl, hn2⟩⟩, hpn⟩ := h
 obtain ⟨stt, tasks, en, now⟩ := x
 simp only at hst sb hlen hle hsr hn1 hn2 hpn hnow hlt hf hq hsl ⊢
 subst hnow
 obtain ⟨bd, rfl, hdo⟩ := hpn
 simp only [Option.isSome_some, if_true] at hn1
 obtain ⟨A1, cap1, rfl, hnc, hnil, hA1⟩ := hrow.form
 obtain ⟨a1, rfl⟩ : ∃ a1, A1 = some a1 := by
  cases A1 with
  | none => exact absurd (hnil rfl).1 (by omega)
  | some a1 => exact ⟨a1, rfl⟩
 obtain ⟨g1, hg1⟩ : ∃ g1, a1 = ⟨g1, 0, none⟩ := ⟨_, hA1 a1 rfl⟩
 subst hg1
 have hi1 : en < n1 := by omega
 have hL1 : en + 1 ≤ n := by omega
 have hL2 : n2 ≤ en + 1 := by omega
 have hL3 : n2 + 1 ≤ en + 1 := by omega
 obtain ⟨cur, tkb, hcur⟩ := hrow.blk_
 obtain ⟨t0, ht0⟩ : ∃ t0, xs[en]? = some t0 := ⟨_, List.getElem?_eq_getElem (by omega)⟩
 have f0 : cur[en]? = some (.int .i64 t0) := by rw [hcur en hi1, ivs_at, ht0]; rfl
 have hidx := (Sl.of_own hrow.own).idx (P := Tryz.prog) (c := cap1) Tryz.underlying89 intSzT hi1
 simp only [ablk, aoff, Option.map_some, Option.getD_some, Nat.zero_add, Nat.mul_one] at hidx
 have hps := hrow.put en hi1 (wrap64 (t0 + 1))
 have hDO := fun W C' (k1 : MemAt W C' M m) (k2 : StAt W C' s sg M.L me stt) (k3 : DoAt W C' c s sg bd M.L me d) => do_Step hcs hs1 k1 k2 k3 hf
 obtain ⟨r, hr⟩ : ∃ r, stepDo M me m stt d = r := ⟨_, rfl⟩
 simp only [hr] at hDO hq hsl ⊢
 obtain ⟨r1, m', t2, d2⟩ := r
 simp only at hq hsl
 subst hq
 have HKc : ¬ K0 k c := fun e => hkc e.symm
 have HKs : ¬ K0 k s := fun e => hks e.symm
 have HKq : ¬ K0 k q := fun e => hkq e.symm
 have HQk : ¬ K0 q k := fun e => hkq e
 have HQc : ¬ K0 q c := fun e => hqc e.symm
 have HQs : ¬ K0 q s := fun e => hqs e.symm
 have HCk : ¬ Kcs c s k := fun e => e.elim hkc (fun e => e.elim hks hk1)
 have HCq : ¬ Kcs c s q := fun e => e.elim hqc (fun e => e.elim hqs hq1)
 have HN := Lib.hid hn1
 have HX := Lib.hid hxl
 have hnn : n2 ≤ 100000 := by omega
 clear hr hcur hn1 hxl hnc hnil hA1 ht0 hf hlt hps
 go_enter Tryz.func33, Tryz.ntmps33
 have fr := Fr.refl C (Kw c s k q) LWk w
 have ag := Agr.refl w.heap.size C
 have z1 := And.intro sb tkb
 revert tkb; revert hdo; revert hsr; revert hslow; revert hrow; revert hst; revert hm; revert sb; revert fr; refine bx1 49 #[.int .i64 0, .bool false, .int .i64 0] ?_; rintro w1 erc lrc fr rc sb hm hst hrow hslow hsr hdo tkb
 go_wp2_with fail
 clear erc z1
 revert fr rc sb hm hst hrow hslow hsr hdo tkb; refine drw ?_; intro fr rc sb hm hst hrow hslow hsr hdo tkb
 obtain ⟨q1, q2, qi⟩ := such2 sb tkb
 refine wp_such2 sb tkb 12 [] [0, 1, 2, 3, 4, 5, 6, 7, 8, 9, 10, 11] [12] (by kernel_rfl) (by kernel_rfl) ?_
 refine wpPh_nil ?_; try simp only [ox]
 repeat (go_big_quiet_step (fail))
 refine wpQuiet_nil ?_
 refine wpTail_late _ _ _ (by kernel_rfl) ?_; try simp only [ox]
 clear qi q1 q2
 have hf' := tkb.fr1 en (.int .i64 (wrap64 (t0 + 1)))
 have hsv : SB (w1.setCell ⟨g1, en, none⟩ (.int .i64 (wrap64 (t0 + 1)))).drew C k b 91 #[.pointer (some ⟨sg, 0, none⟩), .slice A n cap, .int .i64 (en : Int), .pointer (some ⟨bd, 0, none⟩), .slice (some ⟨g1, 0, none⟩) n1 cap1, lv] := sb.fr hf' (.inr (by decide))
 have hc_s := hsv.blk.cells
 have hfz_s := hsv.blk.frees
 go_wp2_with fail
 clear hc_s hfz_s
 replace sb := hsv
 clear hsv
 replace fr := fr.trans (hf'.mono (Kw_k c s k q) (by decide)) ag
 replace hst := hst.fr hf' (.inl HKs)
 replace hrow := hrow.put en hi1 (wrap64 (t0 + 1))
 replace hslow := hslow.fr hf' (.inl HKq)
 replace hsr := hsr.fr hf' (.inr (by decide))
 replace hdo := hdo.fr hf' (.inl ⟨HKc, HKs⟩)
 replace rc := rc.fr hf' (.inr (by decide))
 replace hm := hm.fr hf' (.inl (fun e => hk1 e.symm))
 clear hf' tkb f0
 rw [drew_set] at fr hst hrow hslow hsr hdo rc hm
 generalize (w1.setCell ⟨g1, en, none⟩ (.int .i64 (wrap64 (t0 + 1)))).drew = w2 at *
 refine NoPanic.normal ?_
 go_wp2_with fail
 refine (hDO _ _ hm hst hdo).mono ?_; clear hm hst hdo; rintro e w3 ⟨rfl, ⟨C3, aG, hm, hst, hdo⟩, hf⟩
 replace hrow := hrow.mv hf aG (.inl HCk)
 replace hslow := hslow.mv hf aG (.inl HCq)
 revert rc; revert hsr; revert sb; revert fr; revert ag; refine mvm hf aG (Kw_cs c s k q) LDo_LWk ?_; clear hf aG; intro ag fr sb hsr rc
 try dsimp only at hm hst hdo
 obtain ⟨pz0, pz1, pz2, pz3, pz4, pz5, pz6, pz7, pz8, dob, -⟩ := id hdo.ex
 unfold DoC at dob
 obtain ⟨⟨rc1, ro1, rv1⟩, slow1, tk1, limit1, at1, hd1, hp1, en1, fs1, an1, fi1, gc1, sw1⟩ := d2
 simp only at dob hsl
 subst hsl
 have lt_rc := rc.lt
 have z2 := And.intro sb (And.intro rc dob)
 revert dob; revert rc; revert hdo; revert hsr; revert hslow; revert hrow; revert hst; revert hm; revert sb; revert fr; refine bx1 49 #[.int .i64 rc1, .bool ro1, .int .i64 rv1] ?_; rintro w4 ers lrs fr rs sb hm hst hrow hslow hsr hdo rc dob
 have e1 : wrap64 ((en : Int) + 1) = (en : Int) + 1 := IntWalk.wrap64_in _ (by omega)
 have z3 := And.intro sb (And.intro rc (And.intro dob rs))
 revert fr rs hm hst hrow hslow hsr hdo rc dob; refine st1 sb 3 (.pointer none) (Kw_k c s k q) ag ?_; clear sb; rintro w5 e1 fr sb rs hm hst hrow hslow hsr hdo rc dob
 simp only [sx] at sb
 have z4 := And.intro sb (And.intro rc (And.intro dob rs))
 revert fr rs hm hst hrow hslow hsr hdo rc dob; refine st1 sb 2 (.int .i64 ((en : Int) + 1)) (Kw_k c s k q) ag ?_; clear sb; rintro w6 e2 fr sb rs hm hst hrow hslow hsr hdo rc dob
 simp only [sx] at sb
 have z5 := And.intro sb (And.intro rc (And.intro dob rs))
 have hR := stR
 replace rs := rs.fars (b := w.heap.size) (by first | omega | (simp <;> omega)) [(0, .int .i64 rc1), (1, .bool ro1), (2, .int .i64 rv1)]
 revert fr hm hst hrow hslow hsr hdo dob sb; refine stsn rc [(0, .int .i64 rc1), (1, .bool ro1), (2, .int .i64 rv1)] ?_; clear rc; rintro w7 e3 fr rc hm hst hrow hslow hsr hdo dob sb
 rw [e3] at rs
 simp only [stx, sx] at e3 rc
 go_wp2_with fail
 clear ers z2 z3 e1 z4 e2 z5 e3 hR
 refine bodyPost_ret (v := .tuple #[.agg #[.int .i64 rc1, .bool ro1, .int .i64 rv1], .bool true]) (by simp [results, Tryz.results33, go_sem, rc.1]) rfl ⟨rfl, ⟨_, ag, hm, ?_⟩, fr⟩
 exact ⟨hst, A, n, cap, _, _, _, ⟨sb, hlen, hsm, hL1, hsr, ⟨n1, xs.set en (wrap64 (t0 + 1)), hrow, by simp [HX.out], by have := HN.out; simp [WkS.stop] at this ⊢; omega⟩, ⟨n2, ys, hslow, hyl, hL2⟩⟩, rfl⟩
theorem worker_step_slow {w : World} {C : Nat → Nat} {c s k q sg b : Nat} {M : ML} {m : Mm} {me : Int} {x : WkS} {d : DoS} (hm : MemAt w C M m) (h : WkAt w C c s k q sg b M.L me x) (hnow : x.now = some d) (hlt : x.ended < x.tasks.length) (hf : d.Fine M m x.st)
  (hcs : c ≠ s) (hs1 : s ≠ 1) (hkc : k ≠ c) (hks : k ≠ s) (hk1 : k ≠ 1) (hkq : k ≠ q) (hqc : q ≠ c) (hqs : q ≠ s) (hq1 : q ≠ 1) (hq : (stepDo M me m x.st d).1 = true) (hsl : (stepDo M me m x.st d).2.2.2.slow = true) : Calls Tryz.prog 33 #[.pointer (some ⟨b, 0, none⟩), .pointer (some ⟨M.b, 0, none⟩)] w (WsW C c s k q sg b M me x (stepDo M me m x.st d) w) := by
 obtain ⟨hst, A, n, cap, pn, tv, lv, ⟨sb, hlen, hsm, hle, hsr, ⟨n1, xs, hrow, hxl, hn1⟩, ⟨n2, ys, hslow, hyl, hn2⟩⟩, hpn⟩ := h
 obtain ⟨stt, tasks, en, now⟩ := x
 simp only at hst sb hlen hle hsr hn1 hn2 hpn hnow hlt hf hq hsl ⊢
 subst hnow
 obtain ⟨bd, rfl, hdo⟩ := hpn
 simp only [Option.isSome_some, if_true] at hn1
 obtain ⟨A1, cap1, rfl, hnc, hnil, hA1⟩ := hrow.form
 obtain ⟨a1, rfl⟩ : ∃ a1, A1 = some a1 := by
  cases A1 with
  | none => exact absurd (hnil rfl).1 (by omega)
  | some a1 => exact ⟨a1, rfl⟩
 obtain ⟨g1, hg1⟩ : ∃ g1, a1 = ⟨g1, 0, none⟩ := ⟨_, hA1 a1 rfl⟩
 subst hg1
 have hi1 : en < n1 := by omega
 have hL1 : en + 1 ≤ n := by omega
 have hL2 : n2 ≤ en + 1 := by omega
 have hL3 : n2 + 1 ≤ en + 1 := by omega
 obtain ⟨cur, tkb, hcur⟩ := hrow.blk_
 obtain ⟨t0, ht0⟩ : ∃ t0, xs[en]? = some t0 := ⟨_, List.getElem?_eq_getElem (by omega)⟩
 have f0 : cur[en]? = some (.int .i64 t0) := by rw [hcur en hi1, ivs_at, ht0]; rfl
 have hidx := (Sl.of_own hrow.own).idx (P := Tryz.prog) (c := cap1) Tryz.underlying89 intSzT hi1
 simp only [ablk, aoff, Option.map_some, Option.getD_some, Nat.zero_add, Nat.mul_one] at hidx
 have hps := hrow.put en hi1 (wrap64 (t0 + 1))
 have hDO := fun W C' (k1 : MemAt W C' M m) (k2 : StAt W C' s sg M.L me stt) (k3 : DoAt W C' c s sg bd M.L me d) => do_Step hcs hs1 k1 k2 k3 hf
 obtain ⟨r, hr⟩ : ∃ r, stepDo M me m stt d = r := ⟨_, rfl⟩
 simp only [hr] at hDO hq hsl ⊢
 obtain ⟨r1, m', t2, d2⟩ := r
 simp only at hq hsl
 subst hq
 have HKc : ¬ K0 k c := fun e => hkc e.symm
 have HKs : ¬ K0 k s := fun e => hks e.symm
 have HKq : ¬ K0 k q := fun e => hkq e.symm
 have HQk : ¬ K0 q k := fun e => hkq e
 have HQc : ¬ K0 q c := fun e => hqc e.symm
 have HQs : ¬ K0 q s := fun e => hqs e.symm
 have HCk : ¬ Kcs c s k := fun e => e.elim hkc (fun e => e.elim hks hk1)
 have HCq : ¬ Kcs c s q := fun e => e.elim hqc (fun e => e.elim hqs hq1)
 have HN := Lib.hid hn1
 have HX := Lib.hid hxl
 have hnn : n2 ≤ 100000 := by omega
 clear hr hcur hn1 hxl hnc hnil hA1 ht0 hf hlt hps
 go_enter Tryz.func33, Tryz.ntmps33
 have fr := Fr.refl C (Kw c s k q) LWk w
 have ag := Agr.refl w.heap.size C
 have z1 := And.intro sb tkb
 revert tkb; revert hdo; revert hsr; revert hslow; revert hrow; revert hst; revert hm; revert sb; revert fr; refine bx1 49 #[.int .i64 0, .bool false, .int .i64 0] ?_; rintro w1 erc lrc fr rc sb hm hst hrow hslow hsr hdo tkb
 go_wp2_with fail
 clear erc z1
 revert fr rc sb hm hst hrow hslow hsr hdo tkb; refine drw ?_; intro fr rc sb hm hst hrow hslow hsr hdo tkb
 obtain ⟨q1, q2, qi⟩ := such2 sb tkb
 refine wp_such2 sb tkb 12 [] [0, 1, 2, 3, 4, 5, 6, 7, 8, 9, 10, 11] [12] (by kernel_rfl) (by kernel_rfl) ?_
 refine wpPh_nil ?_; try simp only [ox]
 repeat (go_big_quiet_step (fail))
 refine wpQuiet_nil ?_
 refine wpTail_late _ _ _ (by kernel_rfl) ?_; try simp only [ox]
 clear qi q1 q2
 have hf' := tkb.fr1 en (.int .i64 (wrap64 (t0 + 1)))
 have hsv : SB (w1.setCell ⟨g1, en, none⟩ (.int .i64 (wrap64 (t0 + 1)))).drew C k b 91 #[.pointer (some ⟨sg, 0, none⟩), .slice A n cap, .int .i64 (en : Int), .pointer (some ⟨bd, 0, none⟩), .slice (some ⟨g1, 0, none⟩) n1 cap1, lv] := sb.fr hf' (.inr (by decide))
 have hc_s := hsv.blk.cells
 have hfz_s := hsv.blk.frees
 go_wp2_with fail
 clear hc_s hfz_s
 replace sb := hsv
 clear hsv
 replace fr := fr.trans (hf'.mono (Kw_k c s k q) (by decide)) ag
 replace hst := hst.fr hf' (.inl HKs)
 replace hrow := hrow.put en hi1 (wrap64 (t0 + 1))
 replace hslow := hslow.fr hf' (.inl HKq)
 replace hsr := hsr.fr hf' (.inr (by decide))
 replace hdo := hdo.fr hf' (.inl ⟨HKc, HKs⟩)
 replace rc := rc.fr hf' (.inr (by decide))
 replace hm := hm.fr hf' (.inl (fun e => hk1 e.symm))
 clear hf' tkb f0
 rw [drew_set] at fr hst hrow hslow hsr hdo rc hm
 generalize (w1.setCell ⟨g1, en, none⟩ (.int .i64 (wrap64 (t0 + 1)))).drew = w2 at *
 refine NoPanic.normal ?_
 go_wp2_with fail
 refine (hDO _ _ hm hst hdo).mono ?_; clear hm hst hdo; rintro e w3 ⟨rfl, ⟨C3, aG, hm, hst, hdo⟩, hf⟩
 replace hrow := hrow.mv hf aG (.inl HCk)
 replace hslow := hslow.mv hf aG (.inl HCq)
 revert rc; revert hsr; revert sb; revert fr; revert ag; refine mvm hf aG (Kw_cs c s k q) LDo_LWk ?_; clear hf aG; intro ag fr sb hsr rc
 try dsimp only at hm hst hdo
 obtain ⟨pz0, pz1, pz2, pz3, pz4, pz5, pz6, pz7, pz8, dob, -⟩ := id hdo.ex
 unfold DoC at dob
 obtain ⟨⟨rc1, ro1, rv1⟩, slow1, tk1, limit1, at1, hd1, hp1, en1, fs1, an1, fi1, gc1, sw1⟩ := d2
 simp only at dob hsl
 subst hsl
 have szF := fr.size
 have lt_sb := sb.lt
 have lt_rc := rc.lt
 have lt_dob := dob.lt
 have z2 := And.intro sb (And.intro rc dob)
 revert dob; revert rc; revert hdo; revert hsr; revert hslow; revert hrow; revert hst; revert hm; revert sb; revert fr; refine bx1 49 #[.int .i64 rc1, .bool ro1, .int .i64 rv1] ?_; rintro w4 ers lrs fr rs sb hm hst hrow hslow hsr hdo rc dob
 go_wp2_with fail
 clear ers z2
 generalize w3.heap.size = grs at *
 obtain ⟨A2, cap2, rfl, -, -, -⟩ := hslow.form
 obtain ⟨i0, hi, hz0, hz1, hz2⟩ := info_parts info_int
 have HIV : Hid (ivs (ys ++ [(en : Int)]) = ivs ys ++ [.int .i64 (en : Int)]) := Lib.hid (by simp [ivs])
 revert rs; revert dob; revert rc; revert hdo; revert hsr; revert hslow; revert hrow; revert hst; revert hm; revert sb; revert fr; refine drw ?_; intro fr sb hm hst hrow hslow hsr hdo rc dob rs
 obtain ⟨q1, qi⟩ := such1 sb
 refine wp_such1 sb 10 [] [0, 1, 2, 3, 4, 5, 6, 7, 8] [9, 10, 11, 12, 13] (by kernel_rfl) (by kernel_rfl) ?_
 refine wpPh_nil ?_; try simp only [ox]
 repeat (go_big_quiet_step (fail))
 refine wpQuiet_nil ?_
 refine wpTail_early rfl (fun K' hK' => ?_); go_simp
 revert fr sb hm hst hrow hslow hsr hdo rc dob rs; refine bx1d 3 #[.int .i64 (en : Int)] ?_; rintro w5 e1 lns fr ns sb hm hst hrow hslow hsr hdo rc dob rs; rw [e1]
 refine hK' _ _ (mks1 sb) ?_; clear hK' K' e1
 refine wpTail_late _ _ _ (by kernel_rfl) ?_; try simp only [ox]
 clear qi q1
 go_wp2_with (at_builtin; refine wpList_append_lies _ rfl _ _ _ rfl 0 3 i0 _ 1 8 Tryz.underlying89 hi hz0 hz1 hz2 rfl (by omega) (.slice A2 n2 cap2) n2 (ivs ys) rfl hslow.own ⟨w4.heap.size, 0, none⟩ 1 1 [.int .i64 (en : Int)] rfl rfl (World.news_of_block ns.blk) (ivs_one [(en : Int)]) (by omega) (by unfold maxLen; omega) (by omega) (Nat.zero_le _) (w5.heap.size) rfl ?_; intro g3 cap3 wA hownA hgrowA hatA hltA; have hfA : Fr C3 (K0 q) [some 3] w5 wA := (Fr.refl C3 (K0 q) [some 3] w5).app hslow hgrowA (K0_own q) (by decide); have sA := sb.fr hfA (.inr (by decide)))
 have hrA := hslow.app hownA (hatA.elim (fun e => .inl e.symm) (fun e => .inr (by rw [e]; rfl)))
 obtain ⟨CA, hCA⟩ : ∃ C', C' = paint C3 w5.heap.size q := ⟨_, rfl⟩
 rw [← hCA] at hrA
 have aG : Agr w5.heap.size C3 CA := by rw [hCA]; exact Agr.paint _ _ _
 replace hst := hst.mv hfA aG (.inl HQs)
 replace hdo := hdo.mv hfA aG (.inl ⟨HQc, HQs⟩)
 replace hrow := hrow.mv hfA aG (.inl HQk)
 clear hslow ns sA hCA; revert rs; revert dob; revert rc; revert hsr; revert hm; revert sb; revert fr; revert ag; refine mvm hfA aG (Kw_q c s k q) (by decide) ?_; intro ag fr sb hm hsr rc dob rs
 have hslow := hrA
 clear hrA aG hfA hgrowA hatA hownA
 have ownne := own_ne hslow.own sb.blk (by decide)
 revert hst hdo hrow hm hsr rc dob rs hslow; revert fr; refine st1 sb 5 (.slice (some ⟨g3, 0, none⟩) (n2 + 1) cap3) (Kw_k c s k q) ag ?_; clear sb; rintro w6 e1 fr sb hst hdo hrow hm hsr rc dob rs hslow
 simp only [sx] at sb
 rw [e1]
 clear e1
 clear ownne
 try rw [← HIV.out] at hslow
 refine NoPanic.normal ?_
 have e1 : wrap64 ((en : Int) + 1) = (en : Int) + 1 := IntWalk.wrap64_in _ (by omega)
 have z3 := And.intro sb (And.intro rc (And.intro dob rs))
 revert rs; revert dob; revert rc; revert hdo; revert hsr; revert hslow; revert hrow; revert hst; revert hm; revert fr; refine st1 sb 3 (.pointer none) (Kw_k c s k q) ag ?_; clear sb; rintro w7 e1 fr sb hm hst hrow hslow hsr hdo rc dob rs
 simp only [sx] at sb
 have z4 := And.intro sb (And.intro rc (And.intro dob rs))
 revert fr hm hst hrow hslow hsr hdo rc dob rs; refine st1 sb 2 (.int .i64 ((en : Int) + 1)) (Kw_k c s k q) ag ?_; clear sb; rintro w8 e2 fr sb hm hst hrow hslow hsr hdo rc dob rs
 simp only [sx] at sb
 have z5 := And.intro sb (And.intro rc (And.intro dob rs))
 have hR := stR
 replace rs := rs.fars (b := w.heap.size) (by first | omega | (simp <;> omega)) [(0, .int .i64 rc1), (1, .bool ro1), (2, .int .i64 rv1)]
 revert fr hm hst hrow hslow hsr hdo dob sb; refine stsn rc [(0, .int .i64 rc1), (1, .bool ro1), (2, .int .i64 rv1)] ?_; clear rc; rintro w9 e3 fr rc hm hst hrow hslow hsr hdo dob sb
 rw [e3] at rs
 simp only [stx, sx] at e3 rc
 go_wp2_with fail
 try simp only [e1, e2, e3]
 clear z3 e1 z4 e2 z5 e3 hR
 refine bodyPost_ret (v := .tuple #[.agg #[.int .i64 rc1, .bool ro1, .int .i64 rv1], .bool true]) (by simp [results, Tryz.results33, go_sem, rc.1]) rfl ⟨rfl, ⟨_, ag, hm, ?_⟩, fr⟩
 exact ⟨hst, A, n, cap, _, _, _, ⟨sb, hlen, hsm, hL1, hsr, ⟨n1, xs.set en (wrap64 (t0 + 1)), hrow, by simp [HX.out], by have := HN.out; simp [WkS.stop] at this ⊢; omega⟩, ⟨n2 + 1, ys ++ [(en : Int)], hslow, by simp [hyl], hL3⟩⟩, rfl⟩
end Go.Proofs.YtbcnnhlpilmmbaaGreat
