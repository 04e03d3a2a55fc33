/- Texts that are wanted for PTopPaths.
   Conditions: none. -/
import Derived.Test.YtbcnnhlpilmmbaaGreatJPTopPaths20
set_option maxRecDepth 100000
set_option maxHeartbeats 6400000
namespace Go.Proofs.YtbcnnhlpilmmbaaGreat
open Go Go.RowKit
theorem hd_mem (M : ML) (m : Mm) (h : HdS) : (stepHd M m h).2.1 = m := by
 unfold stepHd
 split
 ·split <;> rfl
 ·rfl
theorem stepDo_0 {M : ML} {me : Int} {m : Mm} {t : StS} {d : DoS} (h0 : d.at_ = 0) : stepDo M me m t d = (false, m, t, if (stepHd M m d.head).1 then DoS.looked M.L me t { d with head := (stepHd M m d.head).2.2 } else { d with head := (stepHd M m d.head).2.2 }) := by
 unfold stepDo; simp only; rw [if_pos h0]; simp only [hd_mem]
theorem stepDo_1 {M : ML} {me : Int} {m : Mm} {t : StS} {d : DoS} (h0 : d.at_ = 1) : stepDo M me m t d = (false, (stepHp M me m t d.help).2.1, (stepHp M me m t d.help).2.2.1, if (stepHp M me m t d.help).1 then DoS.want M.L me (stepHp M me m t d.help).2.2.1 { d with help := (stepHp M me m t d.help).2.2.2 } else { d with help := (stepHp M me m t d.help).2.2.2 }) := by
 unfold stepDo; simp only; rw [if_neg (by rw [h0]; decide)]; rw [if_pos h0]
theorem stepDo_2 {M : ML} {me : Int} {m : Mm} {t : StS} {d : DoS} (h0 : d.at_ = 2) : stepDo M me m t d = (false, (stepEn M me m t d.ens).2.1, (stepEn M me m t d.ens).2.2.1, if (stepEn M me m t d.ens).1 then DoS.ensured M.L me { d with ens := (stepEn M me m t d.ens).2.2.2 } else { d with ens := (stepEn M me m t d.ens).2.2.2 }) := by
 unfold stepDo; simp only; rw [if_neg (by rw [h0]; decide)]; rw [if_neg (by rw [h0]; decide)]; rw [if_pos h0]
theorem stepDo_3 {M : ML} {me : Int} {m : Mm} {t : StS} {d : DoS} (h0 : d.at_ = 3) : stepDo M me m t d = (false, (stepFs M me m t d.fast).2.1, (stepFs M me m t d.fast).2.2.1, if (stepFs M me m t d.fast).1 then DoS.tried M.L me { d with fast := (stepFs M me m t d.fast).2.2.2 } else { d with fast := (stepFs M me m t d.fast).2.2.2 }) := by
 unfold stepDo; simp only; rw [if_neg (by rw [h0]; decide)]; rw [if_neg (by rw [h0]; decide)]; rw [if_neg (by rw [h0]; decide)]; rw [if_pos h0]
theorem stepDo_4 {M : ML} {me : Int} {m : Mm} {t : StS} {d : DoS} (h0 : d.at_ = 4) : stepDo M me m t d = (false, (stepAn M me m d.ann).2.1, t, if (stepAn M me m d.ann).1 then { d with ann := (stepAn M me m d.ann).2.2, at_ := 5, help := .new M.L me (stepAn M me m d.ann).2.2.no d.limit } else { d with ann := (stepAn M me m d.ann).2.2 }) := by
 unfold stepDo; simp only; rw [if_neg (by rw [h0]; decide)]; rw [if_neg (by rw [h0]; decide)]; rw [if_neg (by rw [h0]; decide)]; rw [if_neg (by rw [h0]; decide)]; rw [if_pos h0]
theorem stepDo_5 {M : ML} {me : Int} {m : Mm} {t : StS} {d : DoS} (h0 : d.at_ = 5) : stepDo M me m t d = (false, (stepHp M me m t d.help).2.1, (stepHp M me m t d.help).2.2.1, if (stepHp M me m t d.help).1 then { d with help := (stepHp M me m t d.help).2.2.2, at_ := 6 } else { d with help := (stepHp M me m t d.help).2.2.2 }) := by
 unfold stepDo; simp only; rw [if_neg (by rw [h0]; decide)]; rw [if_neg (by rw [h0]; decide)]; rw [if_neg (by rw [h0]; decide)]; rw [if_neg (by rw [h0]; decide)]; rw [if_neg (by rw [h0]; decide)]; rw [if_pos h0]
theorem stepDo_6 {M : ML} {me : Int} {m : Mm} {t : StS} {d : DoS} (h0 : d.at_ = 6) : stepDo M me m t d = (false, m, t, d.told M.L me (getD' (ld M m (M.L.desc me))).res) := by
 unfold stepDo; simp only; rw [if_neg (by rw [h0]; decide)]; rw [if_neg (by rw [h0]; decide)]; rw [if_neg (by rw [h0]; decide)]; rw [if_neg (by rw [h0]; decide)]; rw [if_neg (by rw [h0]; decide)]; rw [if_neg (by rw [h0]; decide)]; rw [if_pos h0]
theorem stepDo_7 {M : ML} {me : Int} {m : Mm} {t : StS} {d : DoS} (h0 : d.at_ = 7) : stepDo M me m t d = if (stepFi M m d.find).1 then (false, (stepFi M m d.find).2.1, t.retire (stepFi M m d.find).2.2.unl, DoS.leave me { d with find := (stepFi M m d.find).2.2 }) else (false, (stepFi M m d.find).2.1, t, { d with find := (stepFi M m d.find).2.2 }) := by
 unfold stepDo; simp only; rw [if_neg (by rw [h0]; decide)]; rw [if_neg (by rw [h0]; decide)]; rw [if_neg (by rw [h0]; decide)]; rw [if_neg (by rw [h0]; decide)]; rw [if_neg (by rw [h0]; decide)]; rw [if_neg (by rw [h0]; decide)]; rw [if_neg (by rw [h0]; decide)]; rw [if_pos h0]
theorem stepDo_8 {M : ML} {me : Int} {m : Mm} {t : StS} {d : DoS} (h0 : d.at_ = 8) : stepDo M me m t d = if (stepGc M m d.drop).1 then (!full_ M.L t, (stepGc M m d.drop).2.1, t, { d with drop := (stepGc M m d.drop).2.2, at_ := 9, sweep := none }) else (false, (stepGc M m d.drop).2.1, t, { d with drop := (stepGc M m d.drop).2.2 }) := by
 unfold stepDo; simp only; rw [if_neg (by rw [h0]; decide)]; rw [if_neg (by rw [h0]; decide)]; rw [if_neg (by rw [h0]; decide)]; rw [if_neg (by rw [h0]; decide)]; rw [if_neg (by rw [h0]; decide)]; rw [if_neg (by rw [h0]; decide)]; rw [if_neg (by rw [h0]; decide)]; rw [if_neg (by rw [h0]; decide)]; rw [if_pos h0]
theorem stepDo_9 {M : ML} {me : Int} {m : Mm} {t : StS} {d : DoS} (h0 : d.at_ = 9) : stepDo M me m t d = ((stepSw M m t d.sweep).1, (stepSw M m t d.sweep).2.1, (stepSw M m t d.sweep).2.2.1, { d with sweep := (stepSw M m t d.sweep).2.2.2 }) := by
 unfold stepDo; simp only; rw [if_neg (by rw [h0]; decide)]; rw [if_neg (by rw [h0]; decide)]; rw [if_neg (by rw [h0]; decide)]; rw [if_neg (by rw [h0]; decide)]; rw [if_neg (by rw [h0]; decide)]; rw [if_neg (by rw [h0]; decide)]; rw [if_neg (by rw [h0]; decide)]; rw [if_neg (by rw [h0]; decide)]; rw [if_neg (by rw [h0]; decide)]
structure DoGo (M : ML) (me : Int) (m : Mm) (N : Int) (r : Bool × Mm × StS × DoS) : Prop where
 rel : Rel M me m r.2.1
 st : StOk M.L r.2.2.1 (N + 1)
 ok : r.1 = false → DoOk M.L me r.2.2.1 r.2.2.2 (N + 1) ∧ Own M me r.2.1 r.2.2.2
 fin : r.1 = true → Idle M r.2.1 me
structure Base (L : Ly) (t : StS) (d : DoS) (N : Int) : Prop where
 may : d.task.may = true
 lim : 0 ≤ d.limit ∧ d.limit ≤ 1000
 len : (t.ret.length : Int) ≤ N
 N0 : 0 ≤ N
theorem own_idle {M : ML} {me : Int} {m : Mm} {d : DoS} (hi : Idle M m me) (h : d.at_ ≤ 3 ∨ 7 ≤ d.at_) : Own M me m d :=
 ⟨fun _ => hi, fun e => by omega, fun e => by omega, fun e => by omega, fun e => by omega, fun e => by omega, fun e => by omega⟩
theorem do_try_ok {M : ML} {me : Int} {m : Mm} {t : StS} {d : DoS} {N : Int} (hL : M.L.Ok) (hd : Base M.L t d N) (hi : Idle M m me) : DoOk M.L me t (d.try_ M.L me) N ∧ Own M me m (d.try_ M.L me) :=
 ⟨⟨hd.may, hd.lim, by simp [DoS.try_], fun e => by simp [DoS.try_] at e, fun e => by simp [DoS.try_] at e, fun e => by simp [DoS.try_] at e, fun _ => fs_new hL hd.may hd.lim hd.len hd.N0, fun e => by simp [DoS.try_] at e, fun e => by simp [DoS.try_] at e, fun e => by simp [DoS.try_] at e, fun e => by simp [DoS.try_] at e⟩, own_idle hi (by simp [DoS.try_])⟩
theorem do_leave_ok {M : ML} {me : Int} {m : Mm} {t : StS} {d : DoS} {N : Int} (hd : Base M.L t d N) (hi : Idle M m me) : DoOk M.L me t (d.leave me) N ∧ Own M me m (d.leave me) :=
 ⟨⟨hd.may, hd.lim, by simp [DoS.leave], fun e => by simp [DoS.leave] at e, fun e => by simp [DoS.leave] at e, fun e => by simp [DoS.leave] at e, fun e => by simp [DoS.leave] at e, fun e => by simp [DoS.leave] at e, fun e => by simp [DoS.leave] at e, fun _ => ⟨rfl, by simp [DoS.leave]⟩, fun e => by simp [DoS.leave] at e⟩, own_idle hi (by simp [DoS.leave])⟩
theorem do_want_ok {M : ML} {me : Int} {m : Mm} {t : StS} {d : DoS} {N : Int} (hL : M.L.Ok) (hd : Base M.L t d N) (hi : Idle M m me) : DoOk M.L me t (d.want M.L me t) N ∧ Own M me m (d.want M.L me t) := by
 unfold DoS.want
 split
 ·exact ⟨⟨hd.may, hd.lim, by simp, fun e => by simp at e, fun e => by simp at e, fun _ => en_new M.L N, fun e => by simp at e, fun e => by simp at e, fun e => by simp at e, fun e => by simp at e, fun e => by simp at e⟩, own_idle hi (by simp)⟩
 ·exact do_try_ok hL hd hi
theorem do_told_ok {M : ML} {me : Int} {m : Mm} {t : StS} {d : DoS} {N : Int} (hL : M.L.Ok) (hd : Base M.L t d N) (hi : Idle M m me) (r : Rsl) : DoOk M.L me t (d.told M.L me r) N ∧ Own M me m (d.told M.L me r) := by
 unfold DoS.told
 simp only
 split
 ·exact do_leave_ok (d := { d with res := r }) ⟨hd.may, hd.lim, hd.len, hd.N0⟩ hi
 ·have hf := fi_new hL me hd.may d.limit
  have hl := hd.len
  exact ⟨⟨hd.may, hd.lim, by simp, fun e => by simp at e, fun e => by simp at e, fun e => by simp at e, fun e => by simp at e, fun e => by simp at e, fun _ => ⟨⟨hf.1.mono hd.N0, hf.2⟩, by simp [FiS.new]; exact hl⟩, fun e => by simp at e, fun e => by simp at e⟩, own_idle hi (by simp)⟩
theorem do_step0 {M : ML} {me : Int} {m : Mm} {t : StS} {d : DoS} {N : Int} (hL : M.L.Ok) (hm : MOk M m) (_ : 0 ≤ me ∧ me < M.L.th) (hN : 0 ≤ N) (ht : StOk M.L t N) (hd : DoOk M.L me t d N) (ho : Own M me m d) (h0 : d.at_ = 0) : DoGo M me m N (stepDo M me m t d) := by
 have htl := ht.len
 rw [stepDo_0 h0]
 have hi := ho.idle (by omega)
 have hs := hd_step (m := m) (hd.head h0)
 refine ⟨(Safe.refl hm).rel me, ht.mono (by omega), fun _ => ?_, fun e => by simp at e⟩
 simp only
 have hb : Base M.L t { d with head := (stepHd M m d.head).2.2 } (N + 1) := ⟨hd.may, hd.lim, by omega, by omega⟩
 split
 ·unfold DoS.looked
  split
  ·exact do_want_ok hL hb hi
  ·rename_i hq
   have h2 := hs.2.2
   exact ⟨⟨hd.may, hd.lim, by simp, fun e => by simp at e, fun _ => hp_new hL me t (by have h3 := h2; simp only at hq ⊢; omega) _ _ (by omega), fun e => by simp at e, fun e => by simp at e, fun e => by simp at e, fun e => by simp at e, fun e => by simp at e, fun e => by simp at e⟩, own_idle hi (by simp)⟩
 ·rename_i hq
  exact ⟨⟨hd.may, hd.lim, hd.at_, fun _ => hs.2.1 (by simpa using hq), fun e => by simp only at e; omega, fun e => by simp only at e; omega, fun e => by simp only at e; omega, fun e => by simp only at e; omega, fun e => by simp only at e; omega, fun e => by simp only at e; omega, fun e => by simp only at e; omega⟩, own_idle hi (by simp only; omega)⟩
theorem do_step1 {M : ML} {me : Int} {m : Mm} {t : StS} {d : DoS} {N : Int} (hL : M.L.Ok) (hm : MOk M m) (hu : 0 ≤ me ∧ me < M.L.th) (hN : 0 ≤ N) (ht : StOk M.L t N) (hd : DoOk M.L me t d N) (ho : Own M me m d) (h0 : d.at_ = 1) : DoGo M me m N (stepDo M me m t d) := by
 have htl := ht.len
 rw [stepDo_1 h0]
 have hs := hp_step hL hm hu hN ht (hd.help (.inl h0))
 have hi' : Idle M (stepHp M me m t d.help).2.1 me := by
  have hi := ho.idle (by omega)
  unfold Idle stt at hi ⊢
  rw [hs.1.idle hu (ho.idle (by omega))]; exact hi
 have hl2 := hs.2.1.len
 refine ⟨hs.1.rel me, hs.2.1, fun _ => ?_, fun e => by simp at e⟩
 simp only
 split
 ·exact do_want_ok hL (d := { d with help := (stepHp M me m t d.help).2.2.2 }) ⟨hd.may, hd.lim, by omega, by omega⟩ hi'
 ·rename_i hq
  exact ⟨⟨hd.may, hd.lim, hd.at_, fun e => by simp only at e; omega, fun _ => hs.2.2 (by simpa using hq), fun e => by simp only at e; omega, fun e => by simp only at e; omega, fun e => by simp only at e; omega, fun e => by simp only at e; omega, fun e => by simp only at e; omega, fun e => by simp only at e; omega⟩, own_idle hi' (by simp only; omega)⟩
theorem do_step2 {M : ML} {me : Int} {m : Mm} {t : StS} {d : DoS} {N : Int} (hL : M.L.Ok) (hm : MOk M m) (hu : 0 ≤ me ∧ me < M.L.th) (hN : 0 ≤ N) (ht : StOk M.L t N) (hd : DoOk M.L me t d N) (ho : Own M me m d) (h0 : d.at_ = 2) : DoGo M me m N (stepDo M me m t d) := by
 have htl := ht.len
 rw [stepDo_2 h0]
 have hs := en_step (me := me) hL hm ht (hd.ens h0)
 have hi' : Idle M (stepEn M me m t d.ens).2.1 me := by
  have hi := ho.idle (by omega)
  unfold Idle stt at hi ⊢
  rw [hs.1.idle hu (ho.idle (by omega))]; exact hi
 have hl2 := hs.2.1.len
 refine ⟨hs.1.rel me, hs.2.1.mono (by omega), fun _ => ?_, fun e => by simp at e⟩
 simp only
 split
 ·unfold DoS.ensured
  split
  ·exact do_leave_ok (d := { d with ens := (stepEn M me m t d.ens).2.2.2, res := ⟨4, false, 0⟩ }) ⟨hd.may, hd.lim, by omega, by omega⟩ hi'
  ·exact do_try_ok hL (d := { d with ens := (stepEn M me m t d.ens).2.2.2 }) ⟨hd.may, hd.lim, by omega, by omega⟩ hi'
 ·rename_i hq
  exact ⟨⟨hd.may, hd.lim, hd.at_, fun e => by simp only at e; omega, fun e => by simp only at e; omega, fun _ => (hs.2.2 (by simpa using hq)).mono (by omega), fun e => by simp only at e; omega, fun e => by simp only at e; omega, fun e => by simp only at e; omega, fun e => by simp only at e; omega, fun e => by simp only at e; omega⟩, own_idle hi' (by simp only; omega)⟩
theorem do_step3 {M : ML} {me : Int} {m : Mm} {t : StS} {d : DoS} {N : Int} (hL : M.L.Ok) (hm : MOk M m) (hu : 0 ≤ me ∧ me < M.L.th) (hN : 0 ≤ N) (ht : StOk M.L t N) (hd : DoOk M.L me t d N) (ho : Own M me m d) (h0 : d.at_ = 3) : DoGo M me m N (stepDo M me m t d) := by
 have htl := ht.len
 rw [stepDo_3 h0]
 have hs := fs_step hL hm hu hN ht (hd.fast h0)
 have hi' : Idle M (stepFs M me m t d.fast).2.1 me := by
  have hi := ho.idle (by omega)
  unfold Idle stt at hi ⊢
  rw [hs.1.idle hu (ho.idle (by omega))]; exact hi
 have hl2 := hs.2.1.len
 refine ⟨hs.1.rel me, hs.2.1, fun _ => ?_, fun e => by simp at e⟩
 simp only
 split
 ·unfold DoS.tried
  split
  ·exact do_told_ok hL (d := { d with fast := (stepFs M me m t d.fast).2.2.2 }) ⟨hd.may, hd.lim, by omega, by omega⟩ hi' _
  ·refine ⟨⟨hd.may, hd.lim, by simp, fun e => by simp at e, fun e => by simp at e, fun e => by simp at e, fun e => by simp at e, fun _ => by simp [AnS.new], fun e => by simp at e, fun e => by simp at e, fun e => by simp at e⟩, fun _ => hi', fun e => by simp at e, fun e => by simp at e, fun _ => rfl, fun _ e => by simp [AnS.new] at e, fun _ e => by simp [AnS.new] at e, fun _ e => by simp [AnS.new] at e⟩
 ·rename_i hq
  exact ⟨⟨hd.may, hd.lim, hd.at_, fun e => by simp only at e; omega, fun e => by simp only at e; omega, fun e => by simp only at e; omega, fun _ => hs.2.2.1 (by simpa using hq), fun e => by simp only at e; omega, fun e => by simp only at e; omega, fun e => by simp only at e; omega, fun e => by simp only at e; omega⟩, own_idle hi' (by simp only; omega)⟩
theorem do_step4 {M : ML} {me : Int} {m : Mm} {t : StS} {d : DoS} {N : Int} (hL : M.L.Ok) (hm : MOk M m) (hu : 0 ≤ me ∧ me < M.L.th) (hN : 0 ≤ N) (ht : StOk M.L t N) (hd : DoOk M.L me t d N) (ho : Own M me m d) (h0 : d.at_ = 4) : DoGo M me m N (stepDo M me m t d) := by
 have htl := ht.len
 rw [stepDo_4 h0]
 obtain ⟨han, hno⟩ := hd.ann h0
 have hn := hL.nd
 have hth := hL.th
 have hb := ho.bits h0
 have hnum := num_ok hd.may
 have hi := ho.idle (by omega)
 have hlt : 0 ≤ M.L.task me ∧ M.L.task me < M.L.size := by simp only [Ly.task, Ly.size]; omega
 have hlk : 0 ≤ M.L.ticket me ∧ M.L.ticket me < M.L.size := by simp only [Ly.ticket, Ly.size]; omega
 have hld : 0 ≤ M.L.desc me ∧ M.L.desc me < M.L.size := by simp only [Ly.desc, Ly.size]; omega
 rcases (by omega : d.ann.at_ = 0 ∨ d.ann.at_ = 1 ∨ d.ann.at_ = 2 ∨ d.ann.at_ = 3 ∨ d.ann.at_ = 4) with a0 | a0 | a0 | a0 | a0
 ·have e1 : stepAn M me m d.ann = (false, st M m (M.L.task me) d.ann.bits, { d.ann with at_ := 1 }) := by unfold stepAn; rw [if_pos a0]
  rw [e1]
  have hbr : 0 ≤ d.ann.bits ∧ d.ann.bits < 18446744073709551616 := by rw [hb]; exact hnum.2
  have ed : ld M (st M m (M.L.task me) d.ann.bits) (M.L.desc me) = ld M m (M.L.desc me) := ld_st_other _ _ (by simp only [Ly.task, Ly.desc]; omega)
  refine ⟨⟨st_rng hm.rng _ _ hbr, fun a h1 h2 => ?_, fun v h1 h2 => .inl (ld_st_other _ _ ?_), fun v h1 h2 h3 => ld_st_other _ _ ?_, fun v h1 h2 h3 => ld_st_other _ _ ?_, fun n h1 h2 => .inl (ld_st_other _ _ ?_)⟩, ht.mono (by omega), fun _ => ⟨⟨hd.may, hd.lim, by simp only [Bool.false_eq_true, if_false]; omega, fun e => by simp only [Bool.false_eq_true, if_false] at e; omega, fun e => by simp only [Bool.false_eq_true, if_false] at e; omega, fun e => by simp only [Bool.false_eq_true, if_false] at e; omega, fun e => by simp only [Bool.false_eq_true, if_false] at e; omega, fun _ => by simp only [Bool.false_eq_true, if_false]; exact ⟨by omega, hno⟩, fun e => by simp only [Bool.false_eq_true, if_false] at e; omega, fun e => by simp only [Bool.false_eq_true, if_false] at e; omega, fun e => by simp only [Bool.false_eq_true, if_false] at e; omega⟩, ?_⟩, fun e => by simp at e⟩
  ·rw [ld_st_other _ _ (by simp only [Ly.task]; omega)]; exact hm.word a h1 h2
  ·simp only [Ly.task, Ly.desc]; omega
  ·simp only [Ly.task]; omega
  ·simp only [Ly.task, Ly.ticket]; omega
  ·simp only [Ly.task, Ly.life]; omega
  ·refine ⟨fun _ => ?_, fun e => by simp only [Bool.false_eq_true, if_false] at e; omega, fun e => by simp only [Bool.false_eq_true, if_false] at e; omega, fun _ => hb, fun _ _ => ?_, fun _ e => ?_, fun _ e => ?_⟩
   ·unfold Idle stt at hi ⊢; simp only; rw [ed]; exact hi
   ·simp only [Bool.false_eq_true, if_false]; rw [ld_st_same _ _ hlt]; exact hb
   ·simp only [Bool.false_eq_true, if_false] at e; omega
   ·simp only [Bool.false_eq_true, if_false] at e; omega
 ·have e1 : stepAn M me m d.ann = (false, add M m M.L.counter 1, { d.ann with no := (ld M m M.L.counter + 1) % 18446744073709551616, at_ := 2 }) := by unfold stepAn; rw [if_neg (by omega), if_pos a0]
  rw [e1]
  have hbr : 0 ≤ (ld M m M.L.counter + 1) % 18446744073709551616 ∧ (ld M m M.L.counter + 1) % 18446744073709551616 < 18446744073709551616 := by omega
  have hS : Safe M m (add M m M.L.counter 1) := by
   unfold add
   refine safe_st hm hbr (.inr (by simp only [Ly.counter]; omega)) (fun n h1 h2 => by simp only [Ly.counter, Ly.life]; omega) (fun v h1 h2 => by simp only [Ly.counter, Ly.desc, Ly.task, Ly.ticket]; omega)
  have ho2 := ho.safe hS hu
  refine ⟨hS.rel me, ht.mono (by omega), fun _ => ⟨⟨hd.may, hd.lim, by simp only [Bool.false_eq_true, if_false]; omega, fun e => by simp only [Bool.false_eq_true, if_false] at e; omega, fun e => by simp only [Bool.false_eq_true, if_false] at e; omega, fun e => by simp only [Bool.false_eq_true, if_false] at e; omega, fun e => by simp only [Bool.false_eq_true, if_false] at e; omega, fun _ => by simp only [Bool.false_eq_true, if_false]; exact ⟨by omega, hbr⟩, fun e => by simp only [Bool.false_eq_true, if_false] at e; omega, fun e => by simp only [Bool.false_eq_true, if_false] at e; omega, fun e => by simp only [Bool.false_eq_true, if_false] at e; omega⟩, ?_⟩, fun e => by simp at e⟩
  refine ⟨fun _ => ho2.idle (by omega), fun e => by simp only [Bool.false_eq_true, if_false] at e; omega, fun e => by simp only [Bool.false_eq_true, if_false] at e; omega, fun _ => hb, fun _ _ => ho2.an1 h0 (by omega), fun _ e => ?_, fun _ e => ?_⟩
  ·simp only [Bool.false_eq_true, if_false] at e; omega
  ·simp only [Bool.false_eq_true, if_false] at e; omega
 ·have e1 : stepAn M me m d.ann = (false, st M m (M.L.ticket me) d.ann.no, { d.ann with at_ := 3 }) := by unfold stepAn; rw [if_neg (by omega), if_neg (by omega), if_pos a0]
  rw [e1]
  have ed : ld M (st M m (M.L.ticket me) d.ann.no) (M.L.desc me) = ld M m (M.L.desc me) := ld_st_other _ _ (by simp only [Ly.ticket, Ly.desc]; omega)
  have et : ld M (st M m (M.L.ticket me) d.ann.no) (M.L.task me) = ld M m (M.L.task me) := ld_st_other _ _ (by simp only [Ly.ticket, Ly.task]; omega)
  refine ⟨⟨st_rng hm.rng _ _ hno, fun a h1 h2 => ?_, fun v h1 h2 => .inl (ld_st_other _ _ ?_), fun v h1 h2 h3 => ld_st_other _ _ ?_, fun v h1 h2 h3 => ld_st_other _ _ ?_, fun n h1 h2 => .inl (ld_st_other _ _ ?_)⟩, ht.mono (by omega), fun _ => ⟨⟨hd.may, hd.lim, by simp only [Bool.false_eq_true, if_false]; omega, fun e => by simp only [Bool.false_eq_true, if_false] at e; omega, fun e => by simp only [Bool.false_eq_true, if_false] at e; omega, fun e => by simp only [Bool.false_eq_true, if_false] at e; omega, fun e => by simp only [Bool.false_eq_true, if_false] at e; omega, fun _ => by simp only [Bool.false_eq_true, if_false]; exact ⟨by omega, hno⟩, fun e => by simp only [Bool.false_eq_true, if_false] at e; omega, fun e => by simp only [Bool.false_eq_true, if_false] at e; omega, fun e => by simp only [Bool.false_eq_true, if_false] at e; omega⟩, ?_⟩, fun e => by simp at e⟩
  ·rw [ld_st_other _ _ (by simp only [Ly.ticket]; omega)]; exact hm.word a h1 h2
  ·simp only [Ly.ticket, Ly.desc]; omega
  ·simp only [Ly.ticket, Ly.task]; omega
  ·simp only [Ly.ticket]; omega
  ·simp only [Ly.ticket, Ly.life]; omega
  ·refine ⟨fun _ => ?_, fun e => by simp only [Bool.false_eq_true, if_false] at e; omega, fun e => by simp only [Bool.false_eq_true, if_false] at e; omega, fun _ => hb, fun _ _ => ?_, fun _ _ => ?_, fun _ e => ?_⟩
   ·unfold Idle stt at hi ⊢; simp only; rw [ed]; exact hi
   ·simp only [Bool.false_eq_true, if_false]; rw [et]; exact ho.an1 h0 (by omega)
   ·simp only [Bool.false_eq_true, if_false]; exact ld_st_same _ _ hlk
   ·simp only [Bool.false_eq_true, if_false] at e; omega
 ·have e1 : stepAn M me m d.ann = (false, m, { d.ann with found := ld M m (M.L.desc me), at_ := 4 }) := by unfold stepAn; rw [if_neg (by omega), if_neg (by omega), if_neg (by omega), if_pos a0]
  rw [e1]
  refine ⟨(Safe.refl hm).rel me, ht.mono (by omega), fun _ => ⟨⟨hd.may, hd.lim, by simp only [Bool.false_eq_true, if_false]; omega, fun e => by simp only [Bool.false_eq_true, if_false] at e; omega, fun e => by simp only [Bool.false_eq_true, if_false] at e; omega, fun e => by simp only [Bool.false_eq_true, if_false] at e; omega, fun e => by simp only [Bool.false_eq_true, if_false] at e; omega, fun _ => by simp only [Bool.false_eq_true, if_false]; exact ⟨by omega, hno⟩, fun e => by simp only [Bool.false_eq_true, if_false] at e; omega, fun e => by simp only [Bool.false_eq_true, if_false] at e; omega, fun e => by simp only [Bool.false_eq_true, if_false] at e; omega⟩, ?_⟩, fun e => by simp at e⟩
  exact ⟨fun _ => hi, fun e => by simp only [Bool.false_eq_true, if_false] at e; omega, fun e => by simp only [Bool.false_eq_true, if_false] at e; omega, fun _ => hb, fun _ _ => ho.an1 h0 (by omega), fun _ _ => ho.an3 h0 (by omega), fun _ _ => rfl⟩
 ·have e1 : stepAn M me m d.ann = (true, st M m (M.L.desc me) (putD (getD' d.ann.found).next1), { d.ann with at_ := 5 }) := by unfold stepAn; rw [if_neg (by omega), if_neg (by omega), if_neg (by omega), if_neg (by omega)]
  rw [e1]
  have hf := ho.an4 h0 a0
  have eg := getD_putD (next1_fit d.ann.found)
  have es : ld M (st M m (M.L.desc me) (putD (getD' d.ann.found).next1)) (M.L.desc me) = putD (getD' d.ann.found).next1 := ld_st_same _ _ hld
  have et : ld M (st M m (M.L.desc me) (putD (getD' d.ann.found).next1)) (M.L.task me) = ld M m (M.L.task me) := ld_st_other _ _ (by simp only [Ly.desc, Ly.task]; omega)
  have ek : ld M (st M m (M.L.desc me) (putD (getD' d.ann.found).next1)) (M.L.ticket me) = ld M m (M.L.ticket me) := ld_st_other _ _ (by simp only [Ly.desc, Ly.ticket]; omega)
  refine ⟨⟨st_rng hm.rng _ _ (putD_rng64 _), fun a h1 h2 => ?_, fun v h1 h2 => ?_, fun v h1 h2 h3 => ld_st_other _ _ ?_, fun v h1 h2 h3 => ld_st_other _ _ ?_, fun n h1 h2 => .inl (ld_st_other _ _ ?_)⟩, ht.mono (by omega), fun _ => ⟨⟨hd.may, hd.lim, by simp, fun e => by simp at e, fun _ => hp_new hL me t hu _ _ (by omega), fun e => by simp at e, fun e => by simp at e, fun e => by simp at e, fun e => by simp at e, fun e => by simp at e, fun e => by simp at e⟩, ?_⟩, fun e => by simp at e⟩
  ·rw [ld_st_other _ _ (by simp only [Ly.desc]; omega)]; exact hm.word a h1 h2
  ·by_cases e : v = me
   ·subst e
    refine .inr (.inr ⟨rfl, hi, ?_⟩)
    simp only
    rw [es, eg, hf]
   ·exact .inl (ld_st_other _ _ (by simp only [Ly.desc]; omega))
  ·simp only [Ly.desc, Ly.task]; omega
  ·simp only [Ly.desc, Ly.ticket]; omega
  ·simp only [Ly.desc, Ly.life]; omega
  ·refine ⟨fun e => by simp at e, fun e => by simp at e, fun _ => ⟨?_, ?_, rfl, ?_⟩, fun e => by simp at e, fun e => by simp at e, fun e => by simp at e, fun e => by simp at e⟩
   ·unfold stt; simp only; rw [es, eg]; simp [Ds.next1]
   ·simp only [if_true]; rw [et]; exact ho.an1 h0 (by omega)
   ·simp only [if_true]; rw [ek]; exact (ho.an3 h0 (by omega)).symm
theorem hp_keeps (M : ML) (me : Int) (m : Mm) (t : StS) (h : HpS) : (stepHp M me m t h).2.2.2.u = h.u ∧ (stepHp M me m t h).2.2.2.no = h.no := by
 by_cases h0 : h.at_ = 0
 ·rw [stepHp_0 h0]; exact ⟨rfl, rfl⟩
 by_cases h1 : h.at_ = 1
 ·rw [stepHp_1 h1]; exact ⟨rfl, rfl⟩
 by_cases h2 : h.at_ = 2
 ·rw [stepHp_2 h2]
  unfold HpS.begin_
  simp only
  split
  ·exact ⟨rfl, rfl⟩
  ·split
   ·exact ⟨rfl, rfl⟩
   ·split <;> exact ⟨rfl, rfl⟩
 by_cases h3 : h.at_ = 3
 ·rw [stepHp_3 h3]; exact ⟨rfl, rfl⟩
 by_cases h4 : h.at_ = 4
 ·rw [stepHp_4 h4]
  simp only
  split
  ·exact ⟨rfl, rfl⟩
  ·split <;> exact ⟨rfl, rfl⟩
 by_cases h5 : h.at_ = 5
 ·rw [stepHp_5 h5]
  split
  ·unfold HpS.soughtS
   simp only
   split
   ·exact ⟨rfl, rfl⟩
   ·split
    ·exact ⟨rfl, rfl⟩
    ·split
     ·exact ⟨rfl, rfl⟩
     ·split <;> exact ⟨rfl, rfl⟩
  ·exact ⟨rfl, rfl⟩
 by_cases h6 : h.at_ = 6
 ·rw [stepHp_6 h6]; exact ⟨rfl, rfl⟩
 by_cases h7 : h.at_ = 7
 ·rw [stepHp_7 h7]; exact ⟨rfl, rfl⟩
 by_cases h8 : h.at_ = 8
 ·rw [stepHp_8 h8]; exact ⟨rfl, rfl⟩
 ·unfold stepHp
  simp only
  rw [if_neg h0, if_neg h1, if_neg h2, if_neg h3, if_neg h4, if_neg h5, if_neg h6, if_neg h7, if_neg h8]
  exact ⟨rfl, rfl⟩
theorem hp_ends {M : ML} {me : Int} {m : Mm} {t : StS} {h : HpS} (hq : (stepHp M me m t h).1 = true) (hu : h.u = me) (h1 : 1 ≤ stt M m me) (hk : tkOk (ld M m (M.L.task me)) = true) (hno : h.no = ld M m (M.L.ticket me)) (h5 : stt M m me ≤ 5) : stt M m me = 5 := by
 by_cases h0 : h.at_ = 0
 ·rw [stepHp_0 h0, hu] at hq
  simp only [Bool.not_eq_true'] at hq
  unfold Ds.pend at hq
  simp only [Bool.and_eq_false_iff, decide_eq_false_iff_not] at hq
  unfold stt at h1 h5 ⊢
  omega
 by_cases h1' : h.at_ = 1
 ·rw [stepHp_1 h1', hu] at hq
  simp only [decide_eq_true_eq] at hq
  exact absurd hno.symm hq
 by_cases h2 : h.at_ = 2
 ·rw [stepHp_2 h2, hu] at hq
  unfold HpS.begin_ at hq
  simp only at hq
  rw [if_neg (by rw [hk]; decide)] at hq
  split at hq
  ·simp at hq
  ·split at hq <;> simp at hq
 by_cases h3 : h.at_ = 3
 ·rw [stepHp_3 h3] at hq; simp at hq
 by_cases h4 : h.at_ = 4
 ·rw [stepHp_4 h4] at hq; simp at hq
 by_cases h5' : h.at_ = 5
 ·rw [stepHp_5 h5'] at hq
  split at hq <;> simp at hq
 by_cases h6 : h.at_ = 6
 ·rw [stepHp_6 h6] at hq; simp at hq
 by_cases h7 : h.at_ = 7
 ·rw [stepHp_7 h7] at hq; simp at hq
 by_cases h8 : h.at_ = 8
 ·rw [stepHp_8 h8] at hq; simp at hq
 ·unfold stepHp at hq
  simp only at hq
  rw [if_neg h0, if_neg h1', if_neg h2, if_neg h3, if_neg h4, if_neg h5', if_neg h6, if_neg h7, if_neg h8] at hq
  simp at hq
theorem do_step5 {M : ML} {me : Int} {m : Mm} {t : StS} {d : DoS} {N : Int} (hL : M.L.Ok) (hm : MOk M m) (hu : 0 ≤ me ∧ me < M.L.th) (hN : 0 ≤ N) (ht : StOk M.L t N) (hd : DoOk M.L me t d N) (ho : Own M me m d) (h0 : d.at_ = 5) : DoGo M me m N (stepDo M me m t d) := by
 have htl := ht.len
 rw [stepDo_5 h0]
 have hw := ho.owns h0
 have hs := hp_step hL hm hu hN ht (hd.help (.inr h0))
 have hl2 := hs.2.1.len
 have ho2 := ho.safe hs.1 hu
 have hu2 : (stepHp M me m t d.help).2.2.2.u = d.help.u ∧ (stepHp M me m t d.help).2.2.2.no = d.help.no := hp_keeps M me m t d.help
 refine ⟨hs.1.rel me, hs.2.1, fun _ => ?_, fun e => by simp at e⟩
 simp only
 split
 ·rename_i hq
  have hend := hp_ends hq hw.2.2.1 hw.1 (by rw [hw.2.1]; exact (num_ok hd.may).1) hw.2.2.2
  refine ⟨⟨hd.may, hd.lim, by simp, fun e => by simp at e, fun e => by simp at e, fun e => by simp at e, fun e => by simp at e, fun e => by simp at e, fun e => by simp at e, fun e => by simp at e, fun e => by simp at e⟩, fun e => by simp at e, fun _ => ?_, fun e => by simp at e, fun e => by simp at e, fun e => by simp at e, fun e => by simp at e, fun e => by simp at e⟩
  exact hs.1.done hu (hend (hm.desc me hu.1 hu.2).st5)
 ·rename_i hq
  have hw2 := ho2.owns h0
  exact ⟨⟨hd.may, hd.lim, hd.at_, fun e => by simp only at e; omega, fun _ => hs.2.2 (by simpa using hq), fun e => by simp only at e; omega, fun e => by simp only at e; omega, fun e => by simp only at e; omega, fun e => by simp only at e; omega, fun e => by simp only at e; omega, fun e => by simp only at e; omega⟩, fun e => by simp only at e; omega, fun e => by simp only at e; omega, fun _ => ⟨hw2.1, hw2.2.1, hu2.1.trans hw2.2.2.1, hu2.2.trans hw2.2.2.2⟩, fun e => by simp only at e; omega, fun e => by simp only at e; omega, fun e => by simp only at e; omega, fun e => by simp only at e; omega⟩
theorem do_step6 {M : ML} {me : Int} {m : Mm} {t : StS} {d : DoS} {N : Int} (hL : M.L.Ok) (hm : MOk M m) (_ : 0 ≤ me ∧ me < M.L.th) (hN : 0 ≤ N) (ht : StOk M.L t N) (hd : DoOk M.L me t d N) (ho : Own M me m d) (h0 : d.at_ = 6) : DoGo M me m N (stepDo M me m t d) := by
 have htl := ht.len
 rw [stepDo_6 h0]
 have hi : Idle M m me := .inr (ho.done h0)
 exact ⟨(Safe.refl hm).rel me, ht.mono (by omega), fun _ => do_told_ok (N := N + 1) hL (show Base M.L t d (N + 1) from ⟨hd.may, hd.lim, by omega, by omega⟩) hi _, fun e => by simp at e⟩
theorem do_step7 {M : ML} {me : Int} {m : Mm} {t : StS} {d : DoS} {N : Int} (hL : M.L.Ok) (hm : MOk M m) (hu : 0 ≤ me ∧ me < M.L.th) (hN : 0 ≤ N) (ht : StOk M.L t N) (hd : DoOk M.L me t d N) (ho : Own M me m d) (h0 : d.at_ = 7) : DoGo M me m N (stepDo M me m t d) := by
 have htl := ht.len
 rw [stepDo_7 h0]
 have hi := ho.idle (by omega)
 have hf := (hd.find h0).1
 have hsum := (hd.find h0).2
 have hs := fi_step hL hm hu hN hf.1 hf.2
 have hok := hs.2.ok
 have hct := fi_counts M m d.find
 simp only at hok
 have hi' : Idle M (stepFi M m d.find).2.1 me := by
  unfold Idle stt at hi ⊢
  rw [hs.1.idle hu (ho.idle (by omega))]; exact hi
 split
 ·have hrt : StOk M.L (t.retire (stepFi M m d.find).2.2.unl) (N + 1) := retire_ok ht hok.unl.1 (by omega)
  exact ⟨hs.1.rel me, hrt, fun _ => do_leave_ok (d := { d with find := (stepFi M m d.find).2.2 }) ⟨hd.may, hd.lim, hrt.len, by omega⟩ hi', fun e => by simp at e⟩
 ·rename_i hq
  exact ⟨hs.1.rel me, ht.mono (by omega), fun _ => ⟨⟨hd.may, hd.lim, hd.at_, fun e => by simp only at e; omega, fun e => by simp only at e; omega, fun e => by simp only at e; omega, fun e => by simp only at e; omega, fun e => by simp only at e; omega, fun _ => ⟨⟨hok, hs.2.live (by simpa using hq)⟩, by simp only; omega⟩, fun e => by simp only at e; omega, fun e => by simp only at e; omega⟩, own_idle hi' (by simp only; omega)⟩, fun e => by simp at e⟩
theorem do_step8 {M : ML} {me : Int} {m : Mm} {t : StS} {d : DoS} {N : Int} (hL : M.L.Ok) (hm : MOk M m) (hu : 0 ≤ me ∧ me < M.L.th) (_ : 0 ≤ N) (ht : StOk M.L t N) (hd : DoOk M.L me t d N) (ho : Own M me m d) (h0 : d.at_ = 8) : DoGo M me m N (stepDo M me m t d) := by
 have htl := ht.len
 rw [stepDo_8 h0]
 have hi := ho.idle (by omega)
 have hdr := hd.drop h0
 have hS : Safe M m (stepGc M m d.drop).2.1 := by
  unfold stepGc
  simp only
  rw [hdr.1]
  exact safe_slot hm (by omega) hL hu hdr.2
 have hi' : Idle M (stepGc M m d.drop).2.1 me := by
  unfold Idle stt at hi ⊢
  rw [hS.idle hu (ho.idle (by omega))]; exact hi
 split
 ·exact ⟨hS.rel me, ht.mono (by omega), fun _ => ⟨⟨hd.may, hd.lim, by simp, fun e => by simp at e, fun e => by simp at e, fun e => by simp at e, fun e => by simp at e, fun e => by simp at e, fun e => by simp at e, fun e => by simp at e, fun _ s e => by simp at e⟩, own_idle hi' (by simp)⟩, fun _ => hi'⟩
 ·rename_i hq
  have hat : (stepGc M m d.drop).2.2.at_ = d.drop.at_ + 1 := rfl
  have hq' : ¬ 2 ≤ d.drop.at_ + 1 := by
   intro e
   exact hq (decide_eq_true e)
  exact ⟨hS.rel me, ht.mono (by omega), fun _ => ⟨⟨hd.may, hd.lim, hd.at_, fun e => by simp only at e; omega, fun e => by simp only at e; omega, fun e => by simp only at e; omega, fun e => by simp only at e; omega, fun e => by simp only at e; omega, fun e => by simp only at e; omega, fun _ => ⟨hdr.1, by simp only; omega⟩, fun e => by simp only at e; omega⟩, own_idle hi' (by simp only; omega)⟩, fun e => by simp at e⟩
theorem do_step9 {M : ML} {me : Int} {m : Mm} {t : StS} {d : DoS} {N : Int} (hL : M.L.Ok) (hm : MOk M m) (hu : 0 ≤ me ∧ me < M.L.th) (_ : 0 ≤ N) (ht : StOk M.L t N) (hd : DoOk M.L me t d N) (ho : Own M me m d) (h0 : d.at_ = 9) : DoGo M me m N (stepDo M me m t d) := by
 have htl := ht.len
 rw [stepDo_9 h0]
 have hi := ho.idle (by omega)
 have hs := sw_step hL hm ht (hd.sweep h0)
 have hi' : Idle M (stepSw M m t d.sweep).2.1 me := by
  unfold Idle stt at hi ⊢
  rw [hs.1.idle hu (ho.idle (by omega))]; exact hi
 exact ⟨hs.1.rel me, hs.2.1.mono (by omega), fun _ => ⟨⟨hd.may, hd.lim, hd.at_, fun e => by simp only at e; omega, fun e => by simp only at e; omega, fun e => by simp only at e; omega, fun e => by simp only at e; omega, fun e => by simp only at e; omega, fun e => by simp only at e; omega, fun e => by simp only at e; omega, fun _ => hs.2.2.1.mono (by omega)⟩, own_idle hi' (by simp only; omega)⟩, fun _ => hi'⟩
theorem do_step {M : ML} {me : Int} {m : Mm} {t : StS} {d : DoS} {N : Int} (hL : M.L.Ok) (hm : MOk M m) (hu : 0 ≤ me ∧ me < M.L.th) (hN : 0 ≤ N) (ht : StOk M.L t N) (hd : DoOk M.L me t d N) (ho : Own M me m d) : DoGo M me m N (stepDo M me m t d) := by
 rcases (by have := hd.at_; omega : d.at_ = 0 ∨ d.at_ = 1 ∨ d.at_ = 2 ∨ d.at_ = 3 ∨ d.at_ = 4 ∨ d.at_ = 5 ∨ d.at_ = 6 ∨ d.at_ = 7 ∨ d.at_ = 8 ∨ d.at_ = 9) with h0 | h0 | h0 | h0 | h0 | h0 | h0 | h0 | h0 | h0
 ·exact do_step0 hL hm hu hN ht hd ho h0
 ·exact do_step1 hL hm hu hN ht hd ho h0
 ·exact do_step2 hL hm hu hN ht hd ho h0
 ·exact do_step3 hL hm hu hN ht hd ho h0
 ·exact do_step4 hL hm hu hN ht hd ho h0
 ·exact do_step5 hL hm hu hN ht hd ho h0
 ·exact do_step6 hL hm hu hN ht hd ho h0
 ·exact do_step7 hL hm hu hN ht hd ho h0
 ·exact do_step8 hL hm hu hN ht hd ho h0
 ·exact do_step9 hL hm hu hN ht hd ho h0
end Go.Proofs.YtbcnnhlpilmmbaaGreat
