/- Texts that are wanted for PTopPaths.
   Conditions: none. -/
import Derived.Test.YtbcnnhlpilmmbaaGreatJPTopPaths16
set_option maxRecDepth 100000
set_option maxHeartbeats 6400000
namespace Go.Proofs.YtbcnnhlpilmmbaaGreat
open Go Go.RowKit
structure MV (C : Nat → Nat) (c s : Nat) (LX : List (Option TypeId)) (v : Value) (M : ML) (m' : Mm) (P : World → (Nat → Nat) → Prop) (w : World) (e : Ending) (w' : World) : Prop where
 ret : e = .returned v
 own : ∃ C', Agr w.heap.size C C' ∧ MemAt w' C' M m' ∧ P w' C'
 fr : Fr C (Kcs c s) LX w w'
def LHp : List (Option TypeId) := [some 171, some 224, some 157, some 3, some 230, some 236] ++ LEn
theorem LM_LHp : ∀ x, x ∈ LM → x ∈ LHp := by decide
theorem LEx_LHp : ∀ x, x ∈ LEx → x ∈ LHp := by decide
theorem LEn_LHp : ∀ x, x ∈ LEn → x ∈ LHp := by decide
theorem LFi_LHp : ∀ x, x ∈ LFi → x ∈ LHp := by decide
theorem LCl_LHp : ∀ x, x ∈ LCl → x ∈ LHp := by decide
theorem LPr_LHp : ∀ x, x ∈ LPr → x ∈ LHp := by decide
theorem LHr_LHp : ∀ x, x ∈ LHr → x ∈ LHp := by decide
theorem LHt_LHp : ∀ x, x ∈ LHt → x ∈ LHp := by decide
theorem TSt_LHp : ∀ x, x ∈ TSt → x ∈ LHp := by decide
theorem Help_LHp : ∀ x, x ∈ [some 171] → x ∈ LHp := by decide
theorem help_work3 {w : World} {C : Nat → Nat} {c s sg b : Nat} {M : ML} {m : Mm} {me : Int} {t : StS} {h : HpS} (_ : c ≠ s) (_ : s ≠ 1) (hm : MemAt w C M m) (hst : StAt w C s sg M.L me t) (h' : HpAt w C c s sg b M.L h) (hle : t.ret.length ≤ 98000) (h0 : h.at_ = 3) (hat : 0 ≤ h.exec.at_ ∧ h.exec.at_ ≤ 9) : Calls Tryz.prog 106 #[.pointer (some ⟨b, 0, none⟩), .pointer (some ⟨M.b, 0, none⟩)] w (MV C c s LHp (.tuple #[]) M (stepHp M me m t h).2.1 (fun w' C' => StAt w' C' s sg M.L me (stepHp M me m t h).2.2.1 ∧ HpAt w' C' c s sg b M.L (stepHp M me m t h).2.2.2) w) := by
 obtain ⟨pe, pn, pf, pc, pp, sb, h1, h2, h3, h4, h5⟩ := h'.ex
 obtain ⟨be, rfl, hex⟩ := h1 h0
 have HEX := fun W C' (k1 : MemAt W C' M m) (k2 : ExAt W C' c be M.L h.exec) => exec_Step k1 k2 hat
 obtain ⟨r, hr⟩ : ∃ r, stepEx M m h.exec = r := ⟨_, rfl⟩
 simp only [hr] at HEX
 obtain ⟨r1, m', ex2⟩ := r
 have HPO := fun W C' (k1 : StAt W C' s sg M.L me t) (k2 : HpC W C' c sg b (.pointer (some ⟨be, 0, none⟩)) pn pf pc pp h) (hp : 0 ≤ ex2.popped ∧ ex2.popped ≤ 1000) => help_popped k1 k2 (by omega) ex2.popped hp
 have HST : Hid (stepHp M me m t h = (false, m', if r1 ∧ ex2.popped ≠ 0 then t.retire [ex2.popped] else t, { h with exec := ex2, at_ := if r1 then 0 else 3 })) := Lib.hid (by unfold stepHp; simp only; rw [if_neg (by rw [h0]; decide)]; rw [if_neg (by rw [h0]; decide)]; rw [if_neg (by rw [h0]; decide)]; rw [if_pos h0]; simp only [hr])
 unfold HpC at sb
 clear hr
 obtain ⟨u, no, rounds, limit, at_, found, ⟨sh, kind, key⟩, ⟨g0, ⟨g1, g2, g3⟩, g4, g5, g6, g7, g8⟩, exec, ens, find, cl, prep⟩ := h
 simp only at sb h0 hex HST HPO HEX
 subst h0
 clear h' h1 h2 h3 h4 h5 hat
 go_enter Tryz.func106, Tryz.ntmps106
 have fr := Fr.refl C (Kcs c s) LHp w
 have ag := Agr.refl w.heap.size C
 go_wp2_with fail
 refine (HEX _ _ hm hex).mono ?_; clear hm hex; rintro e w1 ⟨rfl, hm, hex, hf⟩
 revert hst; revert sb; revert fr; refine mvf hf (Kcs_c c s) LEx_LHp ag ?_; clear hf; intro fr sb hst
 try dsimp only at hm hex
 cases r1
 ·skip
  go_wp2_with fail
  go_end0
  exact ⟨rfl, ⟨_, ag, by rw [HST.out]; exact hm, by rw [HST.out]; exact ⟨hst, ⟨_, _, _, _, _, sb, fun _ => ⟨be, rfl, hex⟩, fun h => by simp at h, fun h => by simp at h, fun h => by simp at h, fun h => by simp at h⟩⟩⟩, fr⟩
 ·skip
  have hpp := hex.popped
  have exb := hex.blk
  go_wp2_with fail
  refine (HPO _ _ hst sb hpp).mono ?_
  rintro e w9 ⟨rfl, ⟨C9, ag9, hst9, own9⟩, hf9⟩
  have ag' := ag.trans ag9 fr.size
  replace fr := fr.trans (hf9.mono (fun _ h => h) LHr_LHp) ag
  replace hm := hm.mv hf9 ag9 (.inr ⟨by decide, by decide⟩)
  go_wp2_with fail
  go_end0
  exact ⟨rfl, ⟨_, ag', by rw [HST.out]; exact hm, by rw [HST.out]; exact ⟨by simpa using hst9, ⟨_, _, _, _, _, own9, fun h => by simp at h, fun h => by simp at h, fun h => by simp at h, fun h => by simp at h, fun h => by simp at h⟩⟩⟩, fr⟩
theorem help_work4 {w : World} {C : Nat → Nat} {c s sg b : Nat} {M : ML} {m : Mm} {me : Int} {t : StS} {h : HpS} (_ : c ≠ s) (_ : s ≠ 1) (hm : MemAt w C M m) (hst : StAt w C s sg M.L me t) (h' : HpAt w C c s sg b M.L h) (hle : t.ret.length ≤ 98000) (h0 : h.at_ = 4) (hmay : h.task.may = true) (hlv : h.ens.Live) : Calls Tryz.prog 106 #[.pointer (some ⟨b, 0, none⟩), .pointer (some ⟨M.b, 0, none⟩)] w (MV C c s LHp (.tuple #[]) M (stepHp M me m t h).2.1 (fun w' C' => StAt w' C' s sg M.L me (stepHp M me m t h).2.2.1 ∧ HpAt w' C' c s sg b M.L (stepHp M me m t h).2.2.2) w) := by
 obtain ⟨pe, pn, pf, pc, pp, sb, h1, h2, h3, h4, h5⟩ := h'.ex
 obtain ⟨bn, rfl, hen⟩ := h2 h0
 have HEN := fun W C' (k1 : MemAt W C' M m) (k2 : StAt W C' s sg M.L me t) (k3 : EnAt W C' c s sg bn M.L h.ens) => ensure_Step k1 k2 k3 (by omega) hlv
 obtain ⟨r, hr⟩ : ∃ r, stepEn M me m t h.ens = r := ⟨_, rfl⟩
 simp only [hr] at HEN
 obtain ⟨r1, m', t2, en2⟩ := r
 have HPO := fun W C' (k1 : StAt W C' s sg M.L me t2) (k2 : HpAt W C' c s sg b M.L { h with ens := en2 }) => help_ensured hm.ok k1 k2 h0 hmay
 have HST : Hid (stepHp M me m t h = (false, m', t2, if r1 = false then { h with ens := en2 } else HpS.ensured M.L me { h with ens := en2 })) := Lib.hid (by unfold stepHp HpS.ensured; simp only; rw [if_neg (by rw [h0]; decide)]; rw [if_neg (by rw [h0]; decide)]; rw [if_neg (by rw [h0]; decide)]; rw [if_neg (by rw [h0]; decide)]; rw [if_pos h0]; simp only [hr])
 unfold HpC at sb
 clear hr
 obtain ⟨u, no, rounds, limit, at_, found, ⟨sh, kind, key⟩, ⟨g0, ⟨g1, g2, g3⟩, g4, g5, g6, g7, g8⟩, exec, ens, find, cl, prep⟩ := h
 simp only at sb h0 hen HST HPO HEN
 subst h0
 clear h' h1 h2 h3 h4 h5 hlv hmay
 go_enter Tryz.func106, Tryz.ntmps106
 have fr := Fr.refl C (Kcs c s) LHp w
 have ag := Agr.refl w.heap.size C
 go_wp2_with fail
 refine (HEN _ _ hm hst hen).mono ?_; clear hm hst hen; rintro e w1 ⟨rfl, ⟨C1, aG, hm, hst, hen⟩, hf⟩
 revert sb; revert fr; revert ag; refine mvm hf aG (fun _ h => h) LEn_LHp ?_; clear hf aG; intro ag fr sb
 try dsimp only at hm hst hen
 cases r1
 ·skip
  go_wp2_with fail
  go_end0
  exact ⟨rfl, ⟨_, ag, by rw [HST.out]; exact hm, by rw [HST.out]; exact ⟨hst, ⟨_, _, _, _, _, sb, fun h => by simp at h, fun _ => ⟨bn, rfl, hen⟩, fun h => by simp at h, fun h => by simp at h, fun h => by simp at h⟩⟩⟩, fr⟩
 ·skip
  go_wp2_with fail
  refine (HPO _ _ hst ⟨_, _, _, _, _, sb, fun h => by simp at h, fun _ => ⟨bn, rfl, hen⟩, fun h => by simp at h, fun h => by simp at h, fun h => by simp at h⟩).mono ?_
  rintro e w9 ⟨rfl, ⟨C9, ag9, own9⟩, hf9⟩
  have ag' := ag.trans ag9 fr.size
  replace fr := fr.trans (hf9.mono (Kcs_0 c s) Help_LHp) ag
  replace hm := hm.mv hf9 ag9 (.inr ⟨by decide, by decide⟩)
  replace hst := hst.mv hf9 ag9 (.inr (by decide))
  go_wp2_with fail
  go_end0
  exact ⟨rfl, ⟨_, ag', by rw [HST.out]; exact hm, by rw [HST.out]; exact ⟨hst, own9⟩⟩, fr⟩
theorem help_work5 {w : World} {C : Nat → Nat} {c s sg b : Nat} {M : ML} {m : Mm} {me : Int} {t : StS} {h : HpS} (hcs : c ≠ s) (hs1 : s ≠ 1) (hm : MemAt w C M m) (hst : StAt w C s sg M.L me t) (h' : HpAt w C c s sg b M.L h) (hle : t.ret.length ≤ 98000) (h0 : h.at_ = 5) (hmay : h.task.may = true) (hfo : h.find.Ok 100000) (hfa : 0 ≤ h.find.at_ ∧ h.find.at_ ≤ 6) (hfo2 : (stepFi M m h.find).2.2.Ok 100000) : Calls Tryz.prog 106 #[.pointer (some ⟨b, 0, none⟩), .pointer (some ⟨M.b, 0, none⟩)] w (MV C c s LHp (.tuple #[]) M (stepHp M me m t h).2.1 (fun w' C' => StAt w' C' s sg M.L me (stepHp M me m t h).2.2.1 ∧ HpAt w' C' c s sg b M.L (stepHp M me m t h).2.2.2) w) := by
 obtain ⟨pe, pn, pf, pc, pp, sb, h1, h2, h3, h4, h5⟩ := h'.ex
 obtain ⟨bf, rfl, hfi⟩ := h3 h0
 have hKs : ¬ Kc c s := fun e => e.elim (fun e => hcs e.symm) hs1
 have hKf : ¬ K0 s c := fun e => hcs e
 have HFI := fun W C' (k1 : MemAt W C' M m) (k2 : FiAt W C' c bf M.L h.find) => find_Step k1 k2 hfo hfa
 obtain ⟨r, hr⟩ : ∃ r, stepFi M m h.find = r := ⟨_, rfl⟩
 simp only [hr] at HFI hfo2
 obtain ⟨r1, m', fi_⟩ := r
 have HPO := fun W C' (k1 : StAt W C' s sg M.L me (t.retire fi_.unl)) (k2 : HpAt W C' c s sg b M.L { h with find := fi_ }) => help_sought k1 k2 h0 hmay hfo2
 have HST : Hid (stepHp M me m t h = if r1 then (false, m', t.retire fi_.unl, HpS.soughtS t.spare { h with find := fi_ }) else (false, m', t, { h with find := fi_ })) := Lib.hid (by unfold stepHp; simp only; rw [if_neg (by rw [h0]; decide)]; rw [if_neg (by rw [h0]; decide)]; rw [if_neg (by rw [h0]; decide)]; rw [if_neg (by rw [h0]; decide)]; rw [if_neg (by rw [h0]; decide)]; rw [if_pos h0]; simp only [hr, HpS.sought_eq])
 have hu2 := hfo2.unl
 have HFO := Lib.hid hu2.1
 have hle2 : fi_.unl.length ≤ 100000 := by have := hu2.2; simp only at this; omega
 unfold HpC at sb
 clear hr hu2 hfo hfo2
 obtain ⟨u, no, rounds, limit, at_, found, ⟨sh, kind, key⟩, ⟨g0, ⟨g1, g2, g3⟩, g4, g5, g6, g7, g8⟩, exec, ens, find, cl, prep⟩ := h
 simp only at sb h0 hfi HST HPO HFI
 subst h0
 clear h' h1 h2 h3 h4 h5 hfa hmay
 go_enter Tryz.func106, Tryz.ntmps106
 have fr := Fr.refl C (Kcs c s) LHp w
 have ag := Agr.refl w.heap.size C
 go_wp2_with fail
 refine (HFI _ _ hm hfi).mono ?_; clear hm hfi; rintro e w1 ⟨rfl, ⟨C1, aG, hm, hfi⟩, hf⟩
 replace hst := hst.mv hf aG (.inl hKs)
 revert sb; revert fr; revert ag; refine mvm hf aG (Kcs_c c s) LFi_LHp ?_; clear hf aG; intro ag fr sb
 try dsimp only at hm hfi
 cases r1
 ·skip
  go_wp2_with fail
  go_end0
  exact ⟨rfl, ⟨_, ag, by rw [HST.out]; exact hm, by rw [HST.out]; exact ⟨hst, ⟨_, _, _, _, _, sb, fun h => by simp at h, fun h => by simp at h, fun _ => ⟨bf, rfl, hfi⟩, fun h => by simp at h, fun h => by simp at h⟩⟩⟩, fr⟩
 ·skip
  obtain ⟨pc1, hfc, -⟩ := id hfi.ex
  obtain ⟨A1, n1, cap1, hn1, fi, hrow1⟩ := hfc.ex
  have HN1 := Lib.hid hn1
  have hn1le : n1 ≤ 100000 := by omega
  have hsl := Sl.of_own hrow1.own
  clear hn1 hrow1 hfc
  go_wp2_with fail
  revert fi; revert hfi; revert hst; revert hm; revert sb; revert fr; refine drw ?_; intro fr sb hm hst hfi fi
  obtain ⟨q1, q2, qi⟩ := such2 sb fi
  refine wp_such2 sb fi 11 [] [0, 1, 2, 3, 4, 5, 6, 7, 8, 9, 10] [11] (by kernel_rfl) (by kernel_rfl) ?_
  refine wpPh_nil ?_; try simp only [ox]
  repeat (go_big_quiet_step (fail))
  refine wpQuiet_nil ?_
  refine wpTail_late _ _ _ (by kernel_rfl) ?_; try simp only [ox]
  clear qi q1 q2
  go_wp2_with fail
  have hsl2 := hsl.step (Nat.le_refl _) (Below.refl w1.heap.size w1).drew
  refine (store_Retire hst fi_.unl A1 n1 cap1 _ hsl2 HN1.out (by omega) hn1le HFO.out).mono ?_; clear hst; rintro e w2 ⟨rfl, ⟨C2, aG, hst⟩, hf⟩
  replace hfi := hfi.mv hf aG (.inl hKf)
  revert ag fr sb hm fi; refine mvm hf aG (Kcs_s c s) TSt_LHp ?_; clear hf aG; intro ag fr sb hm fi
  clear hsl hsl2
  go_wp2_with fail
  refine NoPanic.normal ?_
  go_wp2_with fail
  refine (HPO _ _ hst ⟨_, _, _, _, _, sb, fun h => by simp at h, fun h => by simp at h, fun _ => ⟨bf, rfl, hfi⟩, fun h => by simp at h, fun h => by simp at h⟩).mono ?_
  rintro e w9 ⟨rfl, ⟨C9, ag9, own9⟩, hf9⟩
  have ag' := ag.trans ag9 fr.size
  replace fr := fr.trans (hf9.mono (Kcs_0 c s) Help_LHp) ag
  replace hm := hm.mv hf9 ag9 (.inr ⟨by decide, by decide⟩)
  replace hst := hst.mv hf9 ag9 (.inr (by decide))
  go_wp2_with fail
  go_end0
  exact ⟨rfl, ⟨_, ag', by rw [HST.out]; exact hm, by rw [HST.out]; exact ⟨hst, own9⟩⟩, fr⟩
theorem help_work7 {w : World} {C : Nat → Nat} {c s sg b : Nat} {M : ML} {m : Mm} {me : Int} {t : StS} {h : HpS} (_ : c ≠ s) (_ : s ≠ 1) (hm : MemAt w C M m) (hst : StAt w C s sg M.L me t) (h' : HpAt w C c s sg b M.L h) (_ : t.ret.length ≤ 98000) (h0 : h.at_ = 7) : Calls Tryz.prog 106 #[.pointer (some ⟨b, 0, none⟩), .pointer (some ⟨M.b, 0, none⟩)] w (MV C c s LHp (.tuple #[]) M (stepHp M me m t h).2.1 (fun w' C' => StAt w' C' s sg M.L me (stepHp M me m t h).2.2.1 ∧ HpAt w' C' c s sg b M.L (stepHp M me m t h).2.2.2) w) := by
 obtain ⟨pe, pn, pf, pc, pp, sb, h1, h2, h3, h4, h5⟩ := h'.ex
 obtain ⟨bc, rfl, hcl⟩ := h4 h0
 have HCL := fun W C' (k1 : MemAt W C' M m) (k2 : ClAt W C' c bc M.L h.cl) => clear_Step k1 k2
 obtain ⟨r, hr⟩ : ∃ r, stepCl M m h.cl = r := ⟨_, rfl⟩
 simp only [hr] at HCL
 obtain ⟨r1, m', cl2⟩ := r
 have HST : Hid (stepHp M me m t h = (false, m', t, { h with cl := cl2, at_ := if r1 then 0 else 7 })) := Lib.hid (by unfold stepHp; simp only; rw [if_neg (by rw [h0]; decide)]; rw [if_neg (by rw [h0]; decide)]; rw [if_neg (by rw [h0]; decide)]; rw [if_neg (by rw [h0]; decide)]; rw [if_neg (by rw [h0]; decide)]; rw [if_neg (by rw [h0]; decide)]; rw [if_neg (by rw [h0]; decide)]; rw [if_pos h0]; simp only [hr])
 unfold HpC at sb
 clear hr
 obtain ⟨u, no, rounds, limit, at_, found, ⟨sh, kind, key⟩, ⟨g0, ⟨g1, g2, g3⟩, g4, g5, g6, g7, g8⟩, exec, ens, find, cl, prep⟩ := h
 simp only at sb h0 hcl HST HCL
 subst h0
 clear h' h1 h2 h3 h4 h5
 go_enter Tryz.func106, Tryz.ntmps106
 have fr := Fr.refl C (Kcs c s) LHp w
 have ag := Agr.refl w.heap.size C
 go_wp2_with fail
 refine (HCL _ _ hm hcl).mono ?_; clear hm hcl; rintro e w1 ⟨rfl, hm, hcl, hf⟩
 revert hst; revert sb; revert fr; refine mvf hf (Kcs_c c s) LCl_LHp ag ?_; clear hf; intro fr sb hst
 try dsimp only at hm hcl
 cases r1
 ·skip
  go_wp2_with fail
  go_end0
  exact ⟨rfl, ⟨_, ag, by rw [HST.out]; exact hm, by rw [HST.out]; exact ⟨hst, ⟨_, _, _, _, _, sb, fun h => by simp at h, fun h => by simp at h, fun h => by simp at h, fun _ => ⟨bc, rfl, hcl⟩, fun h => by simp at h⟩⟩⟩, fr⟩
 ·skip
  have z1 := sb
  revert hcl; revert hst; revert hm; revert fr; refine st1 sb 5 (.int .i64 0) (Kcs_0 c s) ag ?_; clear sb; rintro w2 e1 fr sb hm hst hcl
  simp only [sx] at sb
  go_wp2_with fail
  clear z1 e1
  go_end0
  exact ⟨rfl, ⟨_, ag, by rw [HST.out]; exact hm, by rw [HST.out]; exact ⟨hst, ⟨_, _, _, _, _, sb, fun h => by simp at h, fun h => by simp at h, fun h => by simp at h, fun h => by simp at h, fun h => by simp at h⟩⟩⟩, fr⟩
theorem help_work8 {w : World} {C : Nat → Nat} {c s sg b : Nat} {M : ML} {m : Mm} {me : Int} {t : StS} {h : HpS} (_ : c ≠ s) (_ : s ≠ 1) (hm : MemAt w C M m) (hst : StAt w C s sg M.L me t) (h' : HpAt w C c s sg b M.L h) (_ : t.ret.length ≤ 98000) (h0 : h.at_ = 8) (hk : 0 ≤ h.prep.key) : Calls Tryz.prog 106 #[.pointer (some ⟨b, 0, none⟩), .pointer (some ⟨M.b, 0, none⟩)] w (MV C c s LHp (.tuple #[]) M (stepHp M me m t h).2.1 (fun w' C' => StAt w' C' s sg M.L me (stepHp M me m t h).2.2.1 ∧ HpAt w' C' c s sg b M.L (stepHp M me m t h).2.2.2) w) := by
 obtain ⟨pe, pn, pf, pc, pp, sb, h1, h2, h3, h4, h5⟩ := h'.ex
 obtain ⟨bp, rfl, hpr⟩ := h5 h0
 have HPR := fun W C' (k1 : MemAt W C' M m) (k2 : StAt W C' s sg M.L me t) (k3 : PrAt W C' c sg bp h.prep) => prepare_Step k1 k2 k3 hk
 obtain ⟨r, hr⟩ : ∃ r, stepPr M m t h.prep = r := ⟨_, rfl⟩
 simp only [hr] at HPR
 obtain ⟨r1, m', pr2⟩ := r
 have HST : Hid (stepHp M me m t h = (false, m', t, { h with prep := pr2, at_ := if r1 then 9 else 8 })) := Lib.hid (by unfold stepHp; simp only; rw [if_neg (by rw [h0]; decide)]; rw [if_neg (by rw [h0]; decide)]; rw [if_neg (by rw [h0]; decide)]; rw [if_neg (by rw [h0]; decide)]; rw [if_neg (by rw [h0]; decide)]; rw [if_neg (by rw [h0]; decide)]; rw [if_neg (by rw [h0]; decide)]; rw [if_neg (by rw [h0]; decide)]; rw [if_pos h0]; simp only [hr])
 unfold HpC at sb
 clear hr
 obtain ⟨u, no, rounds, limit, at_, found, ⟨sh, kind, key⟩, ⟨g0, ⟨g1, g2, g3⟩, g4, g5, g6, g7, g8⟩, exec, ens, find, cl, prep⟩ := h
 simp only at sb h0 hpr HST HPR
 subst h0
 clear h' h1 h2 h3 h4 h5
 go_enter Tryz.func106, Tryz.ntmps106
 have fr := Fr.refl C (Kcs c s) LHp w
 have ag := Agr.refl w.heap.size C
 go_wp2_with fail
 refine (HPR _ _ hm hst hpr).mono ?_; clear hm hpr; rintro e w1 ⟨rfl, hm, hpr, hf⟩
 revert hst; revert sb; revert fr; refine mvf hf (Kcs_c c s) LPr_LHp ag ?_; clear hf; intro fr sb hst
 try dsimp only at hm hpr
 cases r1
 ·skip
  go_wp2_with fail
  go_end0
  exact ⟨rfl, ⟨_, ag, by rw [HST.out]; exact hm, by rw [HST.out]; exact ⟨hst, ⟨_, _, _, _, _, sb, fun h => by simp at h, fun h => by simp at h, fun h => by simp at h, fun h => by simp at h, fun _ => ⟨bp, rfl, hpr⟩⟩⟩⟩, fr⟩
 ·skip
  have z1 := sb
  revert hpr; revert hst; revert hm; revert fr; refine st1 sb 5 (.int .i64 9) (Kcs_0 c s) ag ?_; clear sb; rintro w2 e1 fr sb hm hst hpr
  simp only [sx] at sb
  go_wp2_with fail
  clear z1 e1
  go_end0
  exact ⟨rfl, ⟨_, ag, by rw [HST.out]; exact hm, by rw [HST.out]; exact ⟨hst, ⟨_, _, _, _, _, sb, fun h => by simp at h, fun h => by simp at h, fun h => by simp at h, fun h => by simp at h, fun h => by simp at h⟩⟩⟩, fr⟩
theorem help_Step0 {w : World} {C : Nat → Nat} {c s sg b : Nat} {M : ML} {m : Mm} {me : Int} {t : StS} {h : HpS} (_ : c ≠ s) (_ : s ≠ 1) (hm : MemAt w C M m) (hst : StAt w C s sg M.L me t) (h' : HpAt w C c s sg b M.L h) (_ : t.ret.length ≤ 98000) (h0 : h.at_ = 0) (hok : h.Ok 1000000) : Calls Tryz.prog 71 #[.pointer (some ⟨b, 0, none⟩), .pointer (some ⟨M.b, 0, none⟩)] w (MV C c s LHp (.bool (stepHp M me m t h).1) M (stepHp M me m t h).2.1 (fun w' C' => StAt w' C' s sg M.L me (stepHp M me m t h).2.2.1 ∧ HpAt w' C' c s sg b M.L (stepHp M me m t h).2.2.2) w) := by
 obtain ⟨pe, pn, pf, pc, pp, sb, h1, h2, h3, h4, h5⟩ := h'.ex
 obtain ⟨⟨A, n, cap, hn, st, hrow⟩, -, -, -⟩ := id hst
 clear hn hrow
 obtain ⟨hfd, hu, hro⟩ := hok
 have hlr := ld_rng hm (M.L.desc h.u)
 obtain ⟨v, hv⟩ : ∃ v, ld M m (M.L.desc h.u) = v := ⟨_, rfl⟩
 rw [hv] at hlr
 have HDE := fun W C' (k : HpC W C' c sg b pe pn pf pc pp { h with found := v, rounds := h.rounds + 1, at_ := 1 }) => help_desc k hlr
 have hdf := getD_fit v
 obtain ⟨D, hD⟩ : ∃ D, getD' v = D := ⟨_, rfl⟩
 simp only [hD] at HDE hdf
 have HPE := fun W => desc_Pending D hdf W
 have HST : Hid (stepHp M me m t h = (!D.pend, m, t, { h with found := v, rounds := h.rounds + 1, at_ := 1 })) := Lib.hid (by unfold stepHp; simp only; rw [if_pos h0]; simp only [hv, hD])
 obtain ⟨pd, hpd⟩ : ∃ pd, D.pend = pd := ⟨_, rfl⟩
 rw [hpd] at HPE HST
 have HV := Lib.hid hv
 unfold HpC at sb
 clear hD hdf hpd hv
 obtain ⟨da, dd, dv, dn, dm, ds, dl⟩ := D
 simp only [Ds.vals] at HDE HPE
 obtain ⟨u, no, rounds, limit, at_, found, ⟨sh, kind, key⟩, ⟨g0, ⟨g1, g2, g3⟩, g4, g5, g6, g7, g8⟩, exec, ens, find, cl, prep⟩ := h
 simp only at sb h0 hu hro HST HDE HV
 subst h0
 have e1 : wrap64 (rounds + 1) = rounds + 1 := IntWalk.wrap64_in _ (by omega)
 clear h' h1 h2 h3 h4 h5
 go_enter Tryz.func71, Tryz.ntmps71
 have fr := Fr.refl C (Kcs c s) LHp w
 have ag := Agr.refl w.heap.size C
 go_wp2_with fail
 revert st; revert hst; revert hm; revert sb; revert fr; refine drw ?_; intro fr sb hm hst st
 obtain ⟨q1, q2, qi⟩ := such2 sb st
 refine wp_such2 sb st 13 [] [0, 1, 2, 3, 4, 5, 6, 7, 8, 9, 10, 11, 12] [13, 14, 15, 16, 17] (by kernel_rfl) (by kernel_rfl) ?_
 refine wpPh_nil ?_; try simp only [ox]
 repeat (go_big_quiet_step (fail))
 refine wpQuiet_nil ?_
 refine wpTail_late _ _ _ (by kernel_rfl) ?_; try simp only [ox]
 clear qi q1 q2
 go_wp2_with fail
 refine (lay_Desc M.L hm.ok u (by omega) _).mono ?_; rintro e w1 ⟨rfl, hb1⟩
 revert fr sb hm hst st; refine mvb hb1 ?_; intro fr sb hm hst st
 go_wp2_with fail
 refine (mem_Load hm (M.L.desc u)).mono ?_; clear hm; rintro e w2 ⟨rfl, hm, hf⟩
 rw [HV.out]
 revert fr sb hst st; refine mvf hf (Kcs_mem c s) LM_LHp ag ?_; clear hf; intro fr sb hst st
 have z1 := And.intro sb st
 revert hm hst st; revert fr; refine st1 sb 6 (.int .u64 v) (Kcs_0 c s) ag ?_; clear sb; rintro w3 e1 fr sb hm hst st
 simp only [sx] at sb
 go_wp2_with fail
 refine NoPanic.normal ?_
 go_wp2_with fail
 clear z1 e1
 have z2 := And.intro sb st
 revert fr hm hst st; refine st1 sb 3 (.int .i64 (rounds + 1)) (Kcs_0 c s) ag ?_; clear sb; rintro w4 e1 fr sb hm hst st
 simp only [sx] at sb
 have z3 := And.intro sb st
 revert fr hm hst st; refine st1 sb 5 (.int .i64 1) (Kcs_0 c s) ag ?_; clear sb; rintro w5 e2 fr sb hm hst st
 simp only [sx] at sb
 go_wp2_with fail
 try simp only [e1, e2]
 clear z2 e1 z3 e2
 refine (HDE _ _ sb).mono ?_; rintro e w6 ⟨rfl, hb6⟩
 revert fr hm hst st sb; refine mvb hb6 ?_; intro fr hm hst st sb
 go_wp2_with fail
 revert fr hm hst st sb; refine pur (HPE _) ?_; rintro e w7 rfl fr hm hst st sb
 go_wp2_with fail
 go_ret
 exact ⟨by rw [HST.out]; rfl, ⟨_, ag, by rw [HST.out]; exact hm, by rw [HST.out]; exact ⟨hst, ⟨_, _, _, _, _, sb, fun h => by simp at h, fun h => by simp at h, fun h => by simp at h, fun h => by simp at h, fun h => by simp at h⟩⟩⟩, fr⟩
theorem help_Step1 {w : World} {C : Nat → Nat} {c s sg b : Nat} {M : ML} {m : Mm} {me : Int} {t : StS} {h : HpS} (_ : c ≠ s) (_ : s ≠ 1) (hm : MemAt w C M m) (hst : StAt w C s sg M.L me t) (h' : HpAt w C c s sg b M.L h) (_ : t.ret.length ≤ 98000) (h0 : h.at_ = 1) (hu : 0 ≤ h.u ∧ h.u ≤ 7) : Calls Tryz.prog 71 #[.pointer (some ⟨b, 0, none⟩), .pointer (some ⟨M.b, 0, none⟩)] w (MV C c s LHp (.bool (stepHp M me m t h).1) M (stepHp M me m t h).2.1 (fun w' C' => StAt w' C' s sg M.L me (stepHp M me m t h).2.2.1 ∧ HpAt w' C' c s sg b M.L (stepHp M me m t h).2.2.2) w) := by
 obtain ⟨pe, pn, pf, pc, pp, sb, h1, h2, h3, h4, h5⟩ := h'.ex
 obtain ⟨⟨A, n, cap, hn, st, hrow⟩, -, -, -⟩ := id hst
 clear hn hrow
 obtain ⟨v, hv⟩ : ∃ v, ld M m (M.L.ticket h.u) = v := ⟨_, rfl⟩
 obtain ⟨q, hq⟩ : ∃ q, decide (v ≠ h.no) = q := ⟨_, rfl⟩
 have HST : Hid (stepHp M me m t h = (q, m, t, { h with at_ := 2 })) := Lib.hid (by unfold stepHp; simp only; rw [if_neg (by rw [h0]; decide)]; rw [if_pos h0]; simp only [hv]; rw [hq])
 have dq : (v != h.no) = q := by rw [← hq]; by_cases e : v = h.no <;> simp [e]
 have HV := Lib.hid hv
 unfold HpC at sb
 clear hv hq
 obtain ⟨u, no, rounds, limit, at_, found, ⟨sh, kind, key⟩, ⟨g0, ⟨g1, g2, g3⟩, g4, g5, g6, g7, g8⟩, exec, ens, find, cl, prep⟩ := h
 simp only at sb h0 hu HST HV dq
 subst h0
 clear h' h1 h2 h3 h4 h5
 go_enter Tryz.func71, Tryz.ntmps71
 have fr := Fr.refl C (Kcs c s) LHp w
 have ag := Agr.refl w.heap.size C
 go_wp2_with fail
 have z1 := And.intro sb st
 revert st; revert hst; revert hm; revert fr; refine st1 sb 5 (.int .i64 2) (Kcs_0 c s) ag ?_; clear sb; rintro w1 e1 fr sb hm hst st
 simp only [sx] at sb
 go_wp2_with fail
 try simp only [e1]
 clear z1 e1
 revert fr hm hst st sb; refine drw ?_; intro fr hm hst st sb
 obtain ⟨q1, q2, qi⟩ := such2 sb st
 refine wp_such2 sb st 19 [([0, 1, 2, 3, 4, 5, 6, 7, 8, 9, 10, 11, 14, 15, 16, 17], 12), ([], 13)] [18] [19] (by kernel_rfl) (by kernel_rfl) ?_
 refine wpPh_cons ?_; simp only [ox]; repeat (go_big_quiet_step (fail))
 refine pho rfl (fun K' hK' => ?_); go_simp
 ((with_reducible refine (lay_Ticket M.L hm.ok u (by omega) _).mono ?_); rintro e w2 ⟨rfl, hb2⟩)
 revert fr hm hst st sb; refine mvb hb2 ?_; intro fr hm hst st sb
 refine hK' _ _ (mks2 sb st) ?_; clear hK' K'
 refine wpPh_cons ?_; simp only [ox]; repeat (go_big_quiet_step (fail))
 refine pho rfl (fun K' hK' => ?_); go_simp
 ((with_reducible refine (mem_Load hm (M.L.ticket u)).mono ?_); clear hm; rintro e w3 ⟨rfl, hm, hf⟩)
 rw [HV.out]
 revert fr hst st sb; refine mvf hf (Kcs_mem c s) LM_LHp ag ?_; clear hf; intro fr hst st sb
 refine hK' _ _ (mks2 sb st) ?_; clear hK' K'
 refine wpPh_nil ?_; try simp only [ox]
 repeat (go_big_quiet_step (fail))
 refine wpQuiet_nil ?_
 refine wpTail_late _ _ _ (by kernel_rfl) ?_; try simp only [ox]
 clear qi q1 q2
 go_wp2_with fail
 refine NoPanic.normal ?_
 go_wp2_with fail
 go_ret
 exact ⟨by rw [HST.out]; rfl, ⟨_, ag, by rw [HST.out]; exact hm, by rw [HST.out]; exact ⟨hst, ⟨_, _, _, _, _, sb, fun h => by simp at h, fun h => by simp at h, fun h => by simp at h, fun h => by simp at h, fun h => by simp at h⟩⟩⟩, fr⟩
theorem help_Step2 {w : World} {C : Nat → Nat} {c s sg b : Nat} {M : ML} {m : Mm} {me : Int} {t : StS} {h : HpS} (hcs : c ≠ s) (_ : s ≠ 1) (hm : MemAt w C M m) (hst : StAt w C s sg M.L me t) (h' : HpAt w C c s sg b M.L h) (_ : t.ret.length ≤ 98000) (h0 : h.at_ = 2) (hok : h.Ok 1000000) : Calls Tryz.prog 71 #[.pointer (some ⟨b, 0, none⟩), .pointer (some ⟨M.b, 0, none⟩)] w (MV C c s LHp (.bool (stepHp M me m t h).1) M (stepHp M me m t h).2.1 (fun w' C' => StAt w' C' s sg M.L me (stepHp M me m t h).2.2.1 ∧ HpAt w' C' c s sg b M.L (stepHp M me m t h).2.2.2) w) := by
 obtain ⟨pe, pn, pf, pc, pp, sb, h1, h2, h3, h4, h5⟩ := h'.ex
 obtain ⟨⟨A, n, cap, hn, st, hrow⟩, -, -, -⟩ := id hst
 clear hn hrow
 have hu := hok.u
 have hlr := ld_rng hm (M.L.task h.u)
 obtain ⟨v, hv⟩ : ∃ v, ld M m (M.L.task h.u) = v := ⟨_, rfl⟩
 rw [hv] at hlr
 have HBE := fun W C' (k1 : StAt W C' s sg M.L me t) (k2 : HpC W C' c sg b pe pn pf pc pp h) => help_begin hm.ok k1 k2 h0 hok v hlr hcs
 obtain ⟨so, hso⟩ : ∃ so, h.begin_ M.L me t v = so := ⟨_, rfl⟩
 rw [hso] at HBE
 have HST : Hid (stepHp M me m t h = (so.1, m, t, so.2)) := Lib.hid (by unfold stepHp; simp only; rw [if_neg (by rw [h0]; decide)]; rw [if_neg (by rw [h0]; decide)]; rw [if_pos h0]; simp only [hv, hso])
 have HV := Lib.hid hv
 unfold HpC at sb
 clear hv hso hok
 obtain ⟨u, no, rounds, limit, at_, found, ⟨sh, kind, key⟩, ⟨g0, ⟨g1, g2, g3⟩, g4, g5, g6, g7, g8⟩, exec, ens, find, cl, prep⟩ := h
 simp only at sb h0 hu HST HV HBE
 subst h0
 clear h' h1 h2 h3 h4 h5
 go_enter Tryz.func71, Tryz.ntmps71
 have fr := Fr.refl C (Kcs c s) LHp w
 have ag := Agr.refl w.heap.size C
 go_wp2_with fail
 revert st; revert hst; revert hm; revert sb; revert fr; refine drw ?_; intro fr sb hm hst st
 obtain ⟨q1, q2, qi⟩ := such2 sb st
 refine wp_such2 sb st 13 [] [0, 1, 2, 3, 4, 5, 6, 7, 8, 9, 10, 11, 12] [13, 14, 15, 16] (by kernel_rfl) (by kernel_rfl) ?_
 refine wpPh_nil ?_; try simp only [ox]
 repeat (go_big_quiet_step (fail))
 refine wpQuiet_nil ?_
 refine wpTail_late _ _ _ (by kernel_rfl) ?_; try simp only [ox]
 clear qi q1 q2
 go_wp2_with fail
 refine (lay_Task M.L hm.ok u (by omega) _).mono ?_; rintro e w1 ⟨rfl, hb1⟩
 revert fr sb hm hst st; refine mvb hb1 ?_; intro fr sb hm hst st
 go_wp2_with fail
 refine (mem_Load hm (M.L.task u)).mono ?_; clear hm; rintro e w2 ⟨rfl, hm, hf⟩
 rw [HV.out]
 revert fr sb hst st; refine mvf hf (Kcs_mem c s) LM_LHp ag ?_; clear hf; intro fr sb hst st
 go_wp2_with fail
 refine (HBE _ _ hst sb).mono ?_
 rintro e w9 ⟨rfl, ⟨C9, ag9, own9⟩, hf9⟩
 have ag' := ag.trans ag9 fr.size
 replace fr := fr.trans (hf9.mono (Kcs_0 c s) Help_LHp) ag
 replace hm := hm.mv hf9 ag9 (.inr ⟨by decide, by decide⟩)
 replace hst := hst.mv hf9 ag9 (.inr (by decide))
 go_wp2_with fail
 refine NoPanic.normal ?_
 go_wp2_with fail
 go_ret
 exact ⟨by rw [HST.out]; rfl, ⟨_, ag', by rw [HST.out]; exact hm, by rw [HST.out]; exact ⟨hst, own9⟩⟩, fr⟩
theorem help_Step6 {w : World} {C : Nat → Nat} {c s sg b : Nat} {M : ML} {m : Mm} {me : Int} {t : StS} {h : HpS} (_ : c ≠ s) (_ : s ≠ 1) (hm : MemAt w C M m) (hst : StAt w C s sg M.L me t) (h' : HpAt w C c s sg b M.L h) (_ : t.ret.length ≤ 98000) (h0 : h.at_ = 6) (hok : h.Ok 1000000) : Calls Tryz.prog 71 #[.pointer (some ⟨b, 0, none⟩), .pointer (some ⟨M.b, 0, none⟩)] w (MV C c s LHp (.bool (stepHp M me m t h).1) M (stepHp M me m t h).2.1 (fun w' C' => StAt w' C' s sg M.L me (stepHp M me m t h).2.2.1 ∧ HpAt w' C' c s sg b M.L (stepHp M me m t h).2.2.2) w) := by
 obtain ⟨pe, pn, pf, pc, pp, sb, h1, h2, h3, h4, h5⟩ := h'.ex
 obtain ⟨hfd, hu, -⟩ := hok
 have HDE := fun W C' (k : HpC W C' c sg b pe pn pf pc pp h) => help_desc k hfd
 obtain ⟨D, hD⟩ : ∃ D, getD' h.found = D := ⟨_, rfl⟩
 simp only [hD] at HDE
 have HEN := fun W => desc_Ended D h.plan.res.code h.plan.res.ok h.plan.res.val W
 have hxr := putD_rng (D.ended h.plan.res.code h.plan.res.ok h.plan.res.val)
 have HPU := desc_Put_ (D.ended h.plan.res.code h.plan.res.ok h.plan.res.val) _ rfl
 unfold EndedW at HEN
 obtain ⟨E, hE⟩ : ∃ E, D.ended h.plan.res.code h.plan.res.ok h.plan.res.val = E := ⟨_, rfl⟩
 rw [hE] at HPU hxr
 simp only [hE] at HEN
 obtain ⟨y, hy⟩ : ∃ y, putD E = y := ⟨_, rfl⟩
 rw [hy] at HPU hxr
 have HTU := fun W C' (k0 : MemAt W C' M m) (k1 : StAt W C' s sg M.L me t) (k2 : HpC W C' c sg b pe pn pf pc pp h) => help_turn k0 k1 k2 hu y (by omega)
 have HST : Hid (stepHp M me m t h = (false, cas M m (M.L.desc h.u) h.found y, t, { h with at_ := 0 })) := Lib.hid (by unfold stepHp; simp only; rw [if_neg (by rw [h0]; decide)]; rw [if_neg (by rw [h0]; decide)]; rw [if_neg (by rw [h0]; decide)]; rw [if_neg (by rw [h0]; decide)]; rw [if_neg (by rw [h0]; decide)]; rw [if_neg (by rw [h0]; decide)]; rw [if_pos h0]; simp only [hD, hE, hy])
 unfold HpC at sb HDE
 clear hD hE hy
 obtain ⟨da, dd, dv, dn, dm, ds, dl⟩ := D
 obtain ⟨ea, ed, ev, en, em, es, el⟩ := E
 simp only [Ds.vals] at HDE HEN HPU
 obtain ⟨u, no, rounds, limit, at_, found, ⟨sh, kind, key⟩, ⟨g0, ⟨g1, g2, g3⟩, g4, g5, g6, g7, g8⟩, exec, ens, find, cl, prep⟩ := h
 simp only at sb h0 HST HDE HEN HTU
 subst h0
 clear h' h1 h2 h3 h4 h5
 go_enter Tryz.func71, Tryz.ntmps71
 have fr := Fr.refl C (Kcs c s) LHp w
 have ag := Agr.refl w.heap.size C
 go_wp2_with fail
 revert hst; revert hm; revert sb; revert fr; refine drw ?_; intro fr sb hm hst
 obtain ⟨q1, qi⟩ := such1 sb
 refine wp_such1 sb 13 [([0, 2, 3, 4, 5, 6], 1), ([], 7), ([], 8)] [9, 10, 11, 12] [13] (by kernel_rfl) (by kernel_rfl) ?_
 refine wpPh_cons ?_; simp only [ox]; repeat (go_big_quiet_step (fail))
 refine pho rfl (fun K' hK' => ?_); go_simp
 ((with_reducible refine (HDE _ _ sb).mono ?_); rintro e w1 ⟨rfl, hb1⟩)
 revert fr sb hm hst; refine mvb hb1 ?_; intro fr sb hm hst
 refine hK' _ _ (mks1 sb) ?_; clear hK' K'
 refine wpPh_cons ?_; simp only [ox]; repeat (go_big_quiet_step (fail))
 refine pho rfl (fun K' hK' => ?_); go_simp
 revert fr sb hm hst; with_reducible refine pur (HEN _) ?_; rintro e w2 rfl fr sb hm hst
 refine hK' _ _ (mks1 sb) ?_; clear hK' K'
 refine wpPh_cons ?_; simp only [ox]; repeat (go_big_quiet_step (fail))
 refine pho rfl (fun K' hK' => ?_); go_simp
 revert fr sb hm hst; with_reducible refine pur (HPU _) ?_; rintro e w3 ⟨ec, rfl⟩ fr sb hm hst
 refine hK' _ _ (mks1 sb) ?_; clear hK' K'
 refine wpPh_nil ?_; try simp only [ox]
 repeat (go_big_quiet_step (fail))
 refine wpQuiet_nil ?_
 refine wpTail_late _ _ _ (by kernel_rfl) ?_; try simp only [ox]
 clear qi q1
 go_wp2_with fail
 refine NoPanic.normal ?_
 go_wp2_with fail
 refine (HTU _ _ hm hst sb).mono ?_
 rintro e w9 ⟨rfl, hm9, own9, hf9⟩
 replace hm := hm9
 clear hm9
 replace fr := fr.trans (hf9.mono (Kcs_c c s) LHt_LHp) ag
 replace hst := hst.fr hf9 (.inr (by decide))
 go_wp2_with fail
 go_ret
 exact ⟨by rw [HST.out]; rfl, ⟨_, ag, by rw [HST.out]; exact hm, by rw [HST.out]; exact ⟨hst, ⟨_, _, _, _, _, own9, fun h => by simp at h, fun h => by simp at h, fun h => by simp at h, fun h => by simp at h, fun h => by simp at h⟩⟩⟩, fr⟩
theorem plDesc_rng (p : PlS) (att : Int) : 0 ≤ p.desc att ∧ p.desc att < 18446744073709551616 := by
 unfold PlS.desc
 split
 ·omega
 ·have := putD_rng ⟨att, p.addr, (getW p.old).ver, p.next, p.mark, 2, p.res.val⟩
  omega
theorem help_Step9f {w : World} {C : Nat → Nat} {c s sg b : Nat} {M : ML} {m : Mm} {me : Int} {t : StS} {h : HpS} (_ : c ≠ s) (_ : s ≠ 1) (hm : MemAt w C M m) (hst : StAt w C s sg M.L me t) (h' : HpAt w C c s sg b M.L h) (_ : t.ret.length ≤ 98000) (h0 : h.at_ = 9) (hok : h.Ok 1000000) (hold : 0 ≤ h.plan.old ∧ h.plan.old < 18446744073709551616) (hq : casOk M m (M.L.desc h.u) h.found = false) : Calls Tryz.prog 71 #[.pointer (some ⟨b, 0, none⟩), .pointer (some ⟨M.b, 0, none⟩)] w (MV C c s LHp (.bool (stepHp M me m t h).1) M (stepHp M me m t h).2.1 (fun w' C' => StAt w' C' s sg M.L me (stepHp M me m t h).2.2.1 ∧ HpAt w' C' c s sg b M.L (stepHp M me m t h).2.2.2) w) := by
 obtain ⟨pe, pn, pf, pc, pp, sb, h1, h2, h3, h4, h5⟩ := h'.ex
 obtain ⟨hfd, hu, -⟩ := hok
 have HDE := fun W C' (k : HpC W C' c sg b pe pn pf pc pp h) => help_desc k hfd
 obtain ⟨D, hD⟩ : ∃ D, getD' h.found = D := ⟨_, rfl⟩
 simp only [hD] at HDE
 have HPL := fun W => plan_Desc h.plan hold D.att W
 have hxr := plDesc_rng h.plan D.att
 obtain ⟨y, hy⟩ : ∃ y, h.plan.desc D.att = y := ⟨_, rfl⟩
 rw [hy] at hxr
 simp only [hy] at HPL
 have HTU := fun W C' (k0 : MemAt W C' M m) (k1 : StAt W C' s sg M.L me t) (k2 : HpC W C' c sg b pe pn pf pc pp h) => help_turn k0 k1 k2 hu y (by omega)
 rw [hq] at HTU
 have HLI := fun W => task_Links h.task W
 have HST : Hid (stepHp M me m t h = (false, cas M m (M.L.desc h.u) h.found y, t, { h with at_ := 0 })) := Lib.hid (by unfold stepHp; simp only; rw [if_neg (by rw [h0]; decide)]; rw [if_neg (by rw [h0]; decide)]; rw [if_neg (by rw [h0]; decide)]; rw [if_neg (by rw [h0]; decide)]; rw [if_neg (by rw [h0]; decide)]; rw [if_neg (by rw [h0]; decide)]; rw [if_neg (by rw [h0]; decide)]; rw [if_neg (by rw [h0]; decide)]; rw [if_neg (by rw [h0]; decide)]; simp only [hD, hy, hq]; rfl)
 unfold HpC at sb HDE
 clear hD hy hold hq
 obtain ⟨da, dd, dv, dn, dm, ds, dl⟩ := D
 simp only [Ds.vals] at HDE
 have hf0 := fldD0 (.int .i64 da) (.int .i64 dd) (.int .i64 dv) (.int .i64 dn) (.bool dm) (.int .i64 ds) (.int .i64 dl)
 obtain ⟨u, no, rounds, limit, at_, found, ⟨sh, kind, key⟩, ⟨g0, ⟨g1, g2, g3⟩, g4, g5, g6, g7, g8⟩, exec, ens, find, cl, prep⟩ := h
 simp only at sb h0 HST HDE HPL HTU HLI
 subst h0
 simp only [PlS.val] at HPL
 clear h' h1 h2 h3 h4 h5
 go_enter Tryz.func71, Tryz.ntmps71
 have fr := Fr.refl C (Kcs c s) LHp w
 have ag := Agr.refl w.heap.size C
 go_wp2_with fail
 revert hst; revert hm; revert sb; revert fr; refine drw ?_; intro fr sb hm hst
 obtain ⟨q1, qi⟩ := such1 sb
 refine wp_such1 sb 12 [([0, 1, 2, 3, 4], 5), ([6], 7)] [8, 9, 10, 11] [12] (by kernel_rfl) (by kernel_rfl) ?_
 refine wpPh_cons ?_; simp only [ox]; repeat (go_big_quiet_step (fail))
 refine pho rfl (fun K' hK' => ?_); go_simp
 ((with_reducible refine (HDE _ _ sb).mono ?_); rintro e w1 ⟨rfl, hb1⟩)
 revert fr sb hm hst; refine mvb hb1 ?_; intro fr sb hm hst
 refine hK' _ _ (mks1 sb) ?_; clear hK' K'
 refine wpPh_cons ?_; simp only [ox]; repeat (go_big_quiet_step (fail))
 refine pho rfl (fun K' hK' => ?_); go_simp
 revert fr sb hm hst; with_reducible refine pur (HPL _) ?_; rintro e w2 ⟨ec, rfl⟩ fr sb hm hst
 refine hK' _ _ (mks1 sb) ?_; clear hK' K'
 refine wpPh_nil ?_; try simp only [ox]
 repeat (go_big_quiet_step (fail))
 refine wpQuiet_nil ?_
 refine wpTail_late _ _ _ (by kernel_rfl) ?_; try simp only [ox]
 clear qi q1
 go_wp2_with fail
 refine NoPanic.normal ?_
 go_wp2_with fail
 refine (HTU _ _ hm hst sb).mono ?_
 rintro e w9 ⟨rfl, hm9, own9, hf9⟩
 replace hm := hm9
 clear hm9
 replace fr := fr.trans (hf9.mono (Kcs_c c s) LHt_LHp) ag
 replace hst := hst.fr hf9 (.inr (by decide))
 go_wp2_with fail
 go_ret
 exact ⟨by rw [HST.out]; rfl, ⟨_, ag, by rw [HST.out]; exact hm, by rw [HST.out]; exact ⟨hst, ⟨_, _, _, _, _, own9, fun h => by simp at h, fun h => by simp at h, fun h => by simp at h, fun h => by simp at h, fun h => by simp at h⟩⟩⟩, fr⟩
theorem help_Step9n {w : World} {C : Nat → Nat} {c s sg b : Nat} {M : ML} {m : Mm} {me : Int} {t : StS} {h : HpS} (_ : c ≠ s) (_ : s ≠ 1) (hm : MemAt w C M m) (hst : StAt w C s sg M.L me t) (h' : HpAt w C c s sg b M.L h) (_ : t.ret.length ≤ 98000) (h0 : h.at_ = 9) (hok : h.Ok 1000000) (hold : 0 ≤ h.plan.old ∧ h.plan.old < 18446744073709551616) (hq : casOk M m (M.L.desc h.u) h.found = true) (hlk : h.task.links = false) : Calls Tryz.prog 71 #[.pointer (some ⟨b, 0, none⟩), .pointer (some ⟨M.b, 0, none⟩)] w (MV C c s LHp (.bool (stepHp M me m t h).1) M (stepHp M me m t h).2.1 (fun w' C' => StAt w' C' s sg M.L me (stepHp M me m t h).2.2.1 ∧ HpAt w' C' c s sg b M.L (stepHp M me m t h).2.2.2) w) := by
 obtain ⟨pe, pn, pf, pc, pp, sb, h1, h2, h3, h4, h5⟩ := h'.ex
 obtain ⟨hfd, hu, -⟩ := hok
 have HDE := fun W C' (k : HpC W C' c sg b pe pn pf pc pp h) => help_desc k hfd
 obtain ⟨D, hD⟩ : ∃ D, getD' h.found = D := ⟨_, rfl⟩
 simp only [hD] at HDE
 have HPL := fun W => plan_Desc h.plan hold D.att W
 have hxr := plDesc_rng h.plan D.att
 obtain ⟨y, hy⟩ : ∃ y, h.plan.desc D.att = y := ⟨_, rfl⟩
 rw [hy] at hxr
 simp only [hy] at HPL
 have HTU := fun W C' (k0 : MemAt W C' M m) (k1 : StAt W C' s sg M.L me t) (k2 : HpC W C' c sg b pe pn pf pc pp h) => help_turn k0 k1 k2 hu y (by omega)
 rw [hq] at HTU
 have HLI := fun W => task_Links h.task W
 have HST : Hid (stepHp M me m t h = (false, cas M m (M.L.desc h.u) h.found y, t, { h with at_ := 0 })) := Lib.hid (by unfold stepHp; simp only; rw [if_neg (by rw [h0]; decide)]; rw [if_neg (by rw [h0]; decide)]; rw [if_neg (by rw [h0]; decide)]; rw [if_neg (by rw [h0]; decide)]; rw [if_neg (by rw [h0]; decide)]; rw [if_neg (by rw [h0]; decide)]; rw [if_neg (by rw [h0]; decide)]; rw [if_neg (by rw [h0]; decide)]; rw [if_neg (by rw [h0]; decide)]; simp only [hD, hy, hq, hlk]; rfl)
 rw [hlk] at HLI
 unfold HpC at sb HDE
 clear hD hy hold hq hlk
 obtain ⟨da, dd, dv, dn, dm, ds, dl⟩ := D
 simp only [Ds.vals] at HDE
 have hf0 := fldD0 (.int .i64 da) (.int .i64 dd) (.int .i64 dv) (.int .i64 dn) (.bool dm) (.int .i64 ds) (.int .i64 dl)
 obtain ⟨u, no, rounds, limit, at_, found, ⟨sh, kind, key⟩, ⟨g0, ⟨g1, g2, g3⟩, g4, g5, g6, g7, g8⟩, exec, ens, find, cl, prep⟩ := h
 simp only at sb h0 HST HDE HPL HTU HLI
 subst h0
 simp only [PlS.val] at HPL
 clear h' h1 h2 h3 h4 h5
 go_enter Tryz.func71, Tryz.ntmps71
 have fr := Fr.refl C (Kcs c s) LHp w
 have ag := Agr.refl w.heap.size C
 go_wp2_with fail
 revert hst; revert hm; revert sb; revert fr; refine drw ?_; intro fr sb hm hst
 obtain ⟨q1, qi⟩ := such1 sb
 refine wp_such1 sb 12 [([0, 1, 2, 3, 4], 5), ([6], 7)] [8, 9, 10, 11] [12] (by kernel_rfl) (by kernel_rfl) ?_
 refine wpPh_cons ?_; simp only [ox]; repeat (go_big_quiet_step (fail))
 refine pho rfl (fun K' hK' => ?_); go_simp
 ((with_reducible refine (HDE _ _ sb).mono ?_); rintro e w1 ⟨rfl, hb1⟩)
 revert fr sb hm hst; refine mvb hb1 ?_; intro fr sb hm hst
 refine hK' _ _ (mks1 sb) ?_; clear hK' K'
 refine wpPh_cons ?_; simp only [ox]; repeat (go_big_quiet_step (fail))
 refine pho rfl (fun K' hK' => ?_); go_simp
 revert fr sb hm hst; with_reducible refine pur (HPL _) ?_; rintro e w2 ⟨ec, rfl⟩ fr sb hm hst
 refine hK' _ _ (mks1 sb) ?_; clear hK' K'
 refine wpPh_nil ?_; try simp only [ox]
 repeat (go_big_quiet_step (fail))
 refine wpQuiet_nil ?_
 refine wpTail_late _ _ _ (by kernel_rfl) ?_; try simp only [ox]
 clear qi q1
 go_wp2_with fail
 refine NoPanic.normal ?_
 go_wp2_with fail
 refine (HTU _ _ hm hst sb).mono ?_
 rintro e w3 ⟨rfl, hm9, sb9, hf9⟩
 replace hm := hm9
 clear hm9
 replace fr := fr.trans (hf9.mono (Kcs_c c s) LHt_LHp) ag
 replace hst := hst.fr hf9 (.inr (by decide))
 replace sb : SB w3 C c b 171 #[.pointer (some ⟨sg, 0, none⟩), .int .i64 u, .int .u64 no, .int .i64 rounds, .int .i64 limit, .int .i64 0, .int .u64 found, .int .i64 sh, .int .i64 kind, .int .i64 key, .bool g0, .int .i64 g1, .bool g2, .int .i64 g3, .int .i64 g4, .int .u64 g5, .int .i64 g6, .bool g7, .int .i64 g8, pe, pn, pf, pc, pp] := sb9
 clear sb9 hf9
 go_wp2_with fail
 revert hst; revert hm; revert sb; revert fr; refine pur (HLI _) ?_; rintro e w4 rfl fr sb hm hst
 go_wp2_with fail
 go_ret
 exact ⟨by rw [HST.out]; rfl, ⟨_, ag, by rw [HST.out]; exact hm, by rw [HST.out]; exact ⟨hst, ⟨_, _, _, _, _, sb, fun h => by simp at h, fun h => by simp at h, fun h => by simp at h, fun h => by simp at h, fun h => by simp at h⟩⟩⟩, fr⟩
theorem help_Step9y {w : World} {C : Nat → Nat} {c s sg b : Nat} {M : ML} {m : Mm} {me : Int} {t : StS} {h : HpS} (_ : c ≠ s) (_ : s ≠ 1) (hm : MemAt w C M m) (hst : StAt w C s sg M.L me t) (h' : HpAt w C c s sg b M.L h) (_ : t.ret.length ≤ 98000) (h0 : h.at_ = 9) (hok : h.Ok 1000000) (hold : 0 ≤ h.plan.old ∧ h.plan.old < 18446744073709551616) (hq : casOk M m (M.L.desc h.u) h.found = true) (hlk : h.task.links = true) : Calls Tryz.prog 71 #[.pointer (some ⟨b, 0, none⟩), .pointer (some ⟨M.b, 0, none⟩)] w (MV C c s LHp (.bool (stepHp M me m t h).1) M (stepHp M me m t h).2.1 (fun w' C' => StAt w' C' s sg M.L me (stepHp M me m t h).2.2.1 ∧ HpAt w' C' c s sg b M.L (stepHp M me m t h).2.2.2) w) := by
 obtain ⟨pe, pn, pf, pc, pp, sb, h1, h2, h3, h4, h5⟩ := h'.ex
 obtain ⟨hfd, hu, -⟩ := hok
 have HDE := fun W C' (k : HpC W C' c sg b pe pn pf pc pp h) => help_desc k hfd
 obtain ⟨D, hD⟩ : ∃ D, getD' h.found = D := ⟨_, rfl⟩
 simp only [hD] at HDE
 have HPL := fun W => plan_Desc h.plan hold D.att W
 have hxr := plDesc_rng h.plan D.att
 obtain ⟨y, hy⟩ : ∃ y, h.plan.desc D.att = y := ⟨_, rfl⟩
 rw [hy] at hxr
 simp only [hy] at HPL
 have HTU := fun W C' (k0 : MemAt W C' M m) (k1 : StAt W C' s sg M.L me t) (k2 : HpC W C' c sg b pe pn pf pc pp h) => help_turn k0 k1 k2 hu y (by omega)
 rw [hq] at HTU
 have HLI := fun W => task_Links h.task W
 have HST : Hid (stepHp M me m t h = (false, cas M m (M.L.desc h.u) h.found y, { t with spare := 0 }, { h with at_ := 0 })) := Lib.hid (by unfold stepHp; simp only; rw [if_neg (by rw [h0]; decide)]; rw [if_neg (by rw [h0]; decide)]; rw [if_neg (by rw [h0]; decide)]; rw [if_neg (by rw [h0]; decide)]; rw [if_neg (by rw [h0]; decide)]; rw [if_neg (by rw [h0]; decide)]; rw [if_neg (by rw [h0]; decide)]; rw [if_neg (by rw [h0]; decide)]; rw [if_neg (by rw [h0]; decide)]; simp only [hD, hy, hq, hlk]; rfl)
 rw [hlk] at HLI
 unfold HpC at sb HDE
 clear hD hy hold hq hlk
 obtain ⟨da, dd, dv, dn, dm, ds, dl⟩ := D
 simp only [Ds.vals] at HDE
 have hf0 := fldD0 (.int .i64 da) (.int .i64 dd) (.int .i64 dv) (.int .i64 dn) (.bool dm) (.int .i64 ds) (.int .i64 dl)
 obtain ⟨u, no, rounds, limit, at_, found, ⟨sh, kind, key⟩, ⟨g0, ⟨g1, g2, g3⟩, g4, g5, g6, g7, g8⟩, exec, ens, find, cl, prep⟩ := h
 simp only at sb h0 HST HDE HPL HTU HLI
 subst h0
 simp only [PlS.val] at HPL
 clear h' h1 h2 h3 h4 h5
 go_enter Tryz.func71, Tryz.ntmps71
 have fr := Fr.refl C (Kcs c s) LHp w
 have ag := Agr.refl w.heap.size C
 go_wp2_with fail
 revert hst; revert hm; revert sb; revert fr; refine drw ?_; intro fr sb hm hst
 obtain ⟨q1, qi⟩ := such1 sb
 refine wp_such1 sb 12 [([0, 1, 2, 3, 4], 5), ([6], 7)] [8, 9, 10, 11] [12] (by kernel_rfl) (by kernel_rfl) ?_
 refine wpPh_cons ?_; simp only [ox]; repeat (go_big_quiet_step (fail))
 refine pho rfl (fun K' hK' => ?_); go_simp
 ((with_reducible refine (HDE _ _ sb).mono ?_); rintro e w1 ⟨rfl, hb1⟩)
 revert fr sb hm hst; refine mvb hb1 ?_; intro fr sb hm hst
 refine hK' _ _ (mks1 sb) ?_; clear hK' K'
 refine wpPh_cons ?_; simp only [ox]; repeat (go_big_quiet_step (fail))
 refine pho rfl (fun K' hK' => ?_); go_simp
 revert fr sb hm hst; with_reducible refine pur (HPL _) ?_; rintro e w2 ⟨ec, rfl⟩ fr sb hm hst
 refine hK' _ _ (mks1 sb) ?_; clear hK' K'
 refine wpPh_nil ?_; try simp only [ox]
 repeat (go_big_quiet_step (fail))
 refine wpQuiet_nil ?_
 refine wpTail_late _ _ _ (by kernel_rfl) ?_; try simp only [ox]
 clear qi q1
 go_wp2_with fail
 refine NoPanic.normal ?_
 go_wp2_with fail
 refine (HTU _ _ hm hst sb).mono ?_
 rintro e w3 ⟨rfl, hm9, sb9, hf9⟩
 replace hm := hm9
 clear hm9
 replace fr := fr.trans (hf9.mono (Kcs_c c s) LHt_LHp) ag
 replace hst := hst.fr hf9 (.inr (by decide))
 replace sb : SB w3 C c b 171 #[.pointer (some ⟨sg, 0, none⟩), .int .i64 u, .int .u64 no, .int .i64 rounds, .int .i64 limit, .int .i64 0, .int .u64 found, .int .i64 sh, .int .i64 kind, .int .i64 key, .bool g0, .int .i64 g1, .bool g2, .int .i64 g3, .int .i64 g4, .int .u64 g5, .int .i64 g6, .bool g7, .int .i64 g8, pe, pn, pf, pc, pp] := sb9
 clear sb9 hf9
 go_wp2_with fail
 revert hst; revert hm; revert sb; revert fr; refine pur (HLI _) ?_; rintro e w4 rfl fr sb hm hst
 go_wp2_with fail
 refine (store_Use hst).mono ?_; clear hst; rintro e w5 ⟨rfl, hst, hf⟩
 revert fr sb hm; refine mvf hf (Kcs_s c s) TSt_LHp ag ?_; clear hf; intro fr sb hm
 go_wp2_with fail
 go_ret
 exact ⟨by rw [HST.out]; rfl, ⟨_, ag, by rw [HST.out]; exact hm, by rw [HST.out]; exact ⟨hst, ⟨_, _, _, _, _, sb, fun h => by simp at h, fun h => by simp at h, fun h => by simp at h, fun h => by simp at h, fun h => by simp at h⟩⟩⟩, fr⟩
theorem help_Step3 {w : World} {C : Nat → Nat} {c s sg b : Nat} {M : ML} {m : Mm} {me : Int} {t : StS} {h : HpS} (hcs : c ≠ s) (hs1 : s ≠ 1) (hm : MemAt w C M m) (hst : StAt w C s sg M.L me t) (h' : HpAt w C c s sg b M.L h) (hle : t.ret.length ≤ 98000) (h0 : h.at_ = 3) (hat : 0 ≤ h.exec.at_ ∧ h.exec.at_ ≤ 9) : Calls Tryz.prog 71 #[.pointer (some ⟨b, 0, none⟩), .pointer (some ⟨M.b, 0, none⟩)] w (MV C c s LHp (.bool (stepHp M me m t h).1) M (stepHp M me m t h).2.1 (fun w' C' => StAt w' C' s sg M.L me (stepHp M me m t h).2.2.1 ∧ HpAt w' C' c s sg b M.L (stepHp M me m t h).2.2.2) w) := by
 have HWO := help_work3 hcs hs1 hm hst h' hle h0 hat
 have hr1 : (stepHp M me m t h).1 = false := by unfold stepHp; simp only; rw [if_neg (by rw [h0]; decide)]; rw [if_neg (by rw [h0]; decide)]; rw [if_neg (by rw [h0]; decide)]; rw [if_pos h0] <;> first | rfl | (split <;> rfl)
 rw [hr1]
 obtain ⟨pe, pn, pf, pc, pp, sb, -⟩ := h'.ex
 obtain ⟨r, hr⟩ : ∃ r, stepHp M me m t h = r := ⟨_, rfl⟩
 rw [hr] at HWO ⊢
 clear hr hr1 h'
 unfold HpC at sb
 obtain ⟨u, no, rounds, limit, at_, found, ⟨sh, kind, key⟩, ⟨g0, ⟨g1, g2, g3⟩, g4, g5, g6, g7, g8⟩, exec, ens, find, cl, prep⟩ := h
 simp only at sb h0
 subst h0
 have hc := sb.blk.cells
 go_enter Tryz.func71, Tryz.ntmps71
 go_wp2_with fail
 refine HWO.mono ?_
 rintro e w9 ⟨rfl, own9, fr9⟩
 go_wp2_with fail
 go_ret
 exact ⟨rfl, own9, fr9⟩
theorem help_Step4 {w : World} {C : Nat → Nat} {c s sg b : Nat} {M : ML} {m : Mm} {me : Int} {t : StS} {h : HpS} (hcs : c ≠ s) (hs1 : s ≠ 1) (hm : MemAt w C M m) (hst : StAt w C s sg M.L me t) (h' : HpAt w C c s sg b M.L h) (hle : t.ret.length ≤ 98000) (h0 : h.at_ = 4) (hmay : h.task.may = true) (hlv : h.ens.Live) : Calls Tryz.prog 71 #[.pointer (some ⟨b, 0, none⟩), .pointer (some ⟨M.b, 0, none⟩)] w (MV C c s LHp (.bool (stepHp M me m t h).1) M (stepHp M me m t h).2.1 (fun w' C' => StAt w' C' s sg M.L me (stepHp M me m t h).2.2.1 ∧ HpAt w' C' c s sg b M.L (stepHp M me m t h).2.2.2) w) := by
 have HWO := help_work4 hcs hs1 hm hst h' hle h0 hmay hlv
 have hr1 : (stepHp M me m t h).1 = false := by unfold stepHp; simp only; rw [if_neg (by rw [h0]; decide)]; rw [if_neg (by rw [h0]; decide)]; rw [if_neg (by rw [h0]; decide)]; rw [if_neg (by rw [h0]; decide)]; rw [if_pos h0] <;> first | rfl | (split <;> rfl)
 rw [hr1]
 obtain ⟨pe, pn, pf, pc, pp, sb, -⟩ := h'.ex
 obtain ⟨r, hr⟩ : ∃ r, stepHp M me m t h = r := ⟨_, rfl⟩
 rw [hr] at HWO ⊢
 clear hr hr1 h'
 unfold HpC at sb
 obtain ⟨u, no, rounds, limit, at_, found, ⟨sh, kind, key⟩, ⟨g0, ⟨g1, g2, g3⟩, g4, g5, g6, g7, g8⟩, exec, ens, find, cl, prep⟩ := h
 simp only at sb h0
 subst h0
 have hc := sb.blk.cells
 go_enter Tryz.func71, Tryz.ntmps71
 go_wp2_with fail
 refine HWO.mono ?_
 rintro e w9 ⟨rfl, own9, fr9⟩
 go_wp2_with fail
 go_ret
 exact ⟨rfl, own9, fr9⟩
theorem help_Step5 {w : World} {C : Nat → Nat} {c s sg b : Nat} {M : ML} {m : Mm} {me : Int} {t : StS} {h : HpS} (hcs : c ≠ s) (hs1 : s ≠ 1) (hm : MemAt w C M m) (hst : StAt w C s sg M.L me t) (h' : HpAt w C c s sg b M.L h) (hle : t.ret.length ≤ 98000) (h0 : h.at_ = 5) (hmay : h.task.may = true) (hfo : h.find.Ok 100000) (hfa : 0 ≤ h.find.at_ ∧ h.find.at_ ≤ 6) (hfo2 : (stepFi M m h.find).2.2.Ok 100000) : Calls Tryz.prog 71 #[.pointer (some ⟨b, 0, none⟩), .pointer (some ⟨M.b, 0, none⟩)] w (MV C c s LHp (.bool (stepHp M me m t h).1) M (stepHp M me m t h).2.1 (fun w' C' => StAt w' C' s sg M.L me (stepHp M me m t h).2.2.1 ∧ HpAt w' C' c s sg b M.L (stepHp M me m t h).2.2.2) w) := by
 have HWO := help_work5 hcs hs1 hm hst h' hle h0 hmay hfo hfa hfo2
 have hr1 : (stepHp M me m t h).1 = false := by unfold stepHp; simp only; rw [if_neg (by rw [h0]; decide)]; rw [if_neg (by rw [h0]; decide)]; rw [if_neg (by rw [h0]; decide)]; rw [if_neg (by rw [h0]; decide)]; rw [if_neg (by rw [h0]; decide)]; rw [if_pos h0] <;> first | rfl | (split <;> rfl)
 rw [hr1]
 obtain ⟨pe, pn, pf, pc, pp, sb, -⟩ := h'.ex
 obtain ⟨r, hr⟩ : ∃ r, stepHp M me m t h = r := ⟨_, rfl⟩
 rw [hr] at HWO ⊢
 clear hr hr1 h'
 unfold HpC at sb
 obtain ⟨u, no, rounds, limit, at_, found, ⟨sh, kind, key⟩, ⟨g0, ⟨g1, g2, g3⟩, g4, g5, g6, g7, g8⟩, exec, ens, find, cl, prep⟩ := h
 simp only at sb h0
 subst h0
 have hc := sb.blk.cells
 go_enter Tryz.func71, Tryz.ntmps71
 go_wp2_with fail
 refine HWO.mono ?_
 rintro e w9 ⟨rfl, own9, fr9⟩
 go_wp2_with fail
 go_ret
 exact ⟨rfl, own9, fr9⟩
theorem help_Step7 {w : World} {C : Nat → Nat} {c s sg b : Nat} {M : ML} {m : Mm} {me : Int} {t : StS} {h : HpS} (hcs : c ≠ s) (hs1 : s ≠ 1) (hm : MemAt w C M m) (hst : StAt w C s sg M.L me t) (h' : HpAt w C c s sg b M.L h) (hle : t.ret.length ≤ 98000) (h0 : h.at_ = 7)  : Calls Tryz.prog 71 #[.pointer (some ⟨b, 0, none⟩), .pointer (some ⟨M.b, 0, none⟩)] w (MV C c s LHp (.bool (stepHp M me m t h).1) M (stepHp M me m t h).2.1 (fun w' C' => StAt w' C' s sg M.L me (stepHp M me m t h).2.2.1 ∧ HpAt w' C' c s sg b M.L (stepHp M me m t h).2.2.2) w) := by
 have HWO := help_work7 hcs hs1 hm hst h' hle h0
 have hr1 : (stepHp M me m t h).1 = false := by unfold stepHp; simp only; rw [if_neg (by rw [h0]; decide)]; rw [if_neg (by rw [h0]; decide)]; rw [if_neg (by rw [h0]; decide)]; rw [if_neg (by rw [h0]; decide)]; rw [if_neg (by rw [h0]; decide)]; rw [if_neg (by rw [h0]; decide)]; rw [if_neg (by rw [h0]; decide)]; rw [if_pos h0] <;> first | rfl | (split <;> rfl)
 rw [hr1]
 obtain ⟨pe, pn, pf, pc, pp, sb, -⟩ := h'.ex
 obtain ⟨r, hr⟩ : ∃ r, stepHp M me m t h = r := ⟨_, rfl⟩
 rw [hr] at HWO ⊢
 clear hr hr1 h'
 unfold HpC at sb
 obtain ⟨u, no, rounds, limit, at_, found, ⟨sh, kind, key⟩, ⟨g0, ⟨g1, g2, g3⟩, g4, g5, g6, g7, g8⟩, exec, ens, find, cl, prep⟩ := h
 simp only at sb h0
 subst h0
 have hc := sb.blk.cells
 go_enter Tryz.func71, Tryz.ntmps71
 go_wp2_with fail
 refine HWO.mono ?_
 rintro e w9 ⟨rfl, own9, fr9⟩
 go_wp2_with fail
 go_ret
 exact ⟨rfl, own9, fr9⟩
theorem help_Step8 {w : World} {C : Nat → Nat} {c s sg b : Nat} {M : ML} {m : Mm} {me : Int} {t : StS} {h : HpS} (hcs : c ≠ s) (hs1 : s ≠ 1) (hm : MemAt w C M m) (hst : StAt w C s sg M.L me t) (h' : HpAt w C c s sg b M.L h) (hle : t.ret.length ≤ 98000) (h0 : h.at_ = 8) (hk : 0 ≤ h.prep.key) : Calls Tryz.prog 71 #[.pointer (some ⟨b, 0, none⟩), .pointer (some ⟨M.b, 0, none⟩)] w (MV C c s LHp (.bool (stepHp M me m t h).1) M (stepHp M me m t h).2.1 (fun w' C' => StAt w' C' s sg M.L me (stepHp M me m t h).2.2.1 ∧ HpAt w' C' c s sg b M.L (stepHp M me m t h).2.2.2) w) := by
 have HWO := help_work8 hcs hs1 hm hst h' hle h0 hk
 have hr1 : (stepHp M me m t h).1 = false := by unfold stepHp; simp only; rw [if_neg (by rw [h0]; decide)]; rw [if_neg (by rw [h0]; decide)]; rw [if_neg (by rw [h0]; decide)]; rw [if_neg (by rw [h0]; decide)]; rw [if_neg (by rw [h0]; decide)]; rw [if_neg (by rw [h0]; decide)]; rw [if_neg (by rw [h0]; decide)]; rw [if_neg (by rw [h0]; decide)]; rw [if_pos h0] <;> first | rfl | (split <;> rfl)
 rw [hr1]
 obtain ⟨pe, pn, pf, pc, pp, sb, -⟩ := h'.ex
 obtain ⟨r, hr⟩ : ∃ r, stepHp M me m t h = r := ⟨_, rfl⟩
 rw [hr] at HWO ⊢
 clear hr hr1 h'
 unfold HpC at sb
 obtain ⟨u, no, rounds, limit, at_, found, ⟨sh, kind, key⟩, ⟨g0, ⟨g1, g2, g3⟩, g4, g5, g6, g7, g8⟩, exec, ens, find, cl, prep⟩ := h
 simp only at sb h0
 subst h0
 have hc := sb.blk.cells
 go_enter Tryz.func71, Tryz.ntmps71
 go_wp2_with fail
 refine HWO.mono ?_
 rintro e w9 ⟨rfl, own9, fr9⟩
 go_wp2_with fail
 go_ret
 exact ⟨rfl, own9, fr9⟩
structure HpS.Fine (M : ML) (m : Mm) (h : HpS) : Prop where
 ok : h.Ok 1000000
 at_ : 0 ≤ h.at_ ∧ h.at_ ≤ 9
 may : h.at_ = 4 ∨ h.at_ = 5 → h.task.may = true
 exec : h.at_ = 3 → 0 ≤ h.exec.at_ ∧ h.exec.at_ ≤ 9
 live : h.at_ = 4 → h.ens.Live
 find : h.at_ = 5 → h.find.Ok 100000 ∧ (0 ≤ h.find.at_ ∧ h.find.at_ ≤ 6) ∧ (stepFi M m h.find).2.2.Ok 100000
 prep : h.at_ = 8 → 0 ≤ h.prep.key
 old : h.at_ = 9 → 0 ≤ h.plan.old ∧ h.plan.old < 18446744073709551616
theorem help_Step {w : World} {C : Nat → Nat} {c s sg b : Nat} {M : ML} {m : Mm} {me : Int} {t : StS} {h : HpS} (hcs : c ≠ s) (hs1 : s ≠ 1) (hm : MemAt w C M m) (hst : StAt w C s sg M.L me t) (h' : HpAt w C c s sg b M.L h) (hle : t.ret.length ≤ 98000) (hf : h.Fine M m) : Calls Tryz.prog 71 #[.pointer (some ⟨b, 0, none⟩), .pointer (some ⟨M.b, 0, none⟩)] w (MV C c s LHp (.bool (stepHp M me m t h).1) M (stepHp M me m t h).2.1 (fun w' C' => StAt w' C' s sg M.L me (stepHp M me m t h).2.2.1 ∧ HpAt w' C' c s sg b M.L (stepHp M me m t h).2.2.2) w) := by
 rcases (by have := hf.at_; omega : h.at_ = 0 ∨ h.at_ = 1 ∨ h.at_ = 2 ∨ h.at_ = 3 ∨ h.at_ = 4 ∨ h.at_ = 5 ∨ h.at_ = 6 ∨ h.at_ = 7 ∨ h.at_ = 8 ∨ h.at_ = 9) with h0 | h0 | h0 | h0 | h0 | h0 | h0 | h0 | h0 | h0
 ·exact help_Step0 hcs hs1 hm hst h' hle h0 hf.ok
 ·exact help_Step1 hcs hs1 hm hst h' hle h0 hf.ok.u
 ·exact help_Step2 hcs hs1 hm hst h' hle h0 hf.ok
 ·exact help_Step3 hcs hs1 hm hst h' hle h0 (hf.exec h0)
 ·exact help_Step4 hcs hs1 hm hst h' hle h0 (hf.may (.inl h0)) (hf.live h0)
 ·exact help_Step5 hcs hs1 hm hst h' hle h0 (hf.may (.inr h0)) (hf.find h0).1 (hf.find h0).2.1 (hf.find h0).2.2
 ·exact help_Step6 hcs hs1 hm hst h' hle h0 hf.ok
 ·exact help_Step7 hcs hs1 hm hst h' hle h0
 ·exact help_Step8 hcs hs1 hm hst h' hle h0 (hf.prep h0)
 ·cases hq : casOk M m (M.L.desc h.u) h.found with
  | false => exact help_Step9f hcs hs1 hm hst h' hle h0 hf.ok (hf.old h0) hq
  | true =>
   cases hlk : h.task.links with
   | false => exact help_Step9n hcs hs1 hm hst h' hle h0 hf.ok (hf.old h0) hq hlk
   | true => exact help_Step9y hcs hs1 hm hst h' hle h0 hf.ok (hf.old h0) hq hlk
end Go.Proofs.YtbcnnhlpilmmbaaGreat
