/- Texts that are wanted for PTopPaths.
   Conditions: none. -/
import Derived.Test.YtbcnnhlpilmmbaaGreatJPTopPaths19
set_option maxRecDepth 100000
set_option maxHeartbeats 6400000
namespace Go.Proofs.YtbcnnhlpilmmbaaGreat
open Go Go.RowKit
theorem Nodes.small {L : Ly} (hL : L.Ok) {l : List Int} (h : Nodes L l) : Small l := fun x hx => by have := h x hx; have := hL.nd; omega
theorem FiOk.fine {L : Ly} (hL : L.Ok) {u : Int} {f : FiS} {N : Int} (h : FiOk L u f N) (hu : 0 ≤ u ∧ u ≤ 7) (hN : N ≤ 100000) : f.Ok 100000 := by
 have hn := hL.nd
 have h1 := h.tries; have h2 := h.moved; have h3 := h.unl
 cases ha : f.ab with
 | false =>
  have hp := h.pos ha
  exact ⟨hp.pw.1, hp.cw.1, by have := hp.curr; omega, by omega, by omega, by rw [h.me]; exact hu, h3.1.small hL, by omega⟩
 | true =>
  have hp := (h.ab ha).2
  exact ⟨by rw [hp]; simp, by rw [hp]; simp, by rw [hp]; simp, by omega, by omega, by rw [h.me]; exact hu, h3.1.small hL, by omega⟩
theorem planFor_code {t : Tk3} {p : Pos} {n : Int} : (planFor t p n).res.code = 0 := by
 unfold planFor
 split
 ·rfl
 ·split
  ·rfl
  ·split
   ·unfold Pos.take
    split
    ·rfl
    ·split <;> rfl
   ·rfl
structure FsOk (L : Ly) (me : Int) (t : StS) (f : FsS) (N : Int) : Prop where
 may : f.task.may = true
 most : 0 ≤ f.most ∧ f.most ≤ 1000
 at_ : 0 ≤ f.at_ ∧ f.at_ ≤ 3
 tries : 0 ≤ f.tries ∧ f.tries ≤ N
 sum : f.at_ = 0 → f.tries + f.find.tries ≤ N ∧ f.find.limit = f.most - f.tries ∧ (t.ret.length : Int) + f.find.unl.length ≤ N
 find : f.at_ = 0 → FiOk L me f.find N ∧ FiLive L f.find
 plan : 1 ≤ f.at_ → PlOk L f.plan ∧ f.plan.now = false ∧ f.plan.res.code = 0
 cl : f.at_ = 1 → ClOk L f.cl
 prep : f.at_ = 2 → PrOk L f.prep
 code : f.res.code = 0
theorem FsOk.fine {M : ML} {me : Int} {m : Mm} {t : StS} {f : FsS} {N : Int} (hL : M.L.Ok) (hm : MOk M m) (hu : 0 ≤ me ∧ me < M.L.th) (h : FsOk M.L me t f N) (hN0 : 0 ≤ N) (hN : N ≤ 90000) : f.Fine M m t := by
 have hth := hL.th; have hn := hL.nd
 refine ⟨⟨h.may, by have := h.tries; omega, h.most⟩, h.at_, fun h0 _ => ?_, fun h2 => (h.prep h2).key.1, fun h3 => ?_⟩
 ·have hf := h.find h0
  have hs := fi_step hL hm hu hN0 hf.1 hf.2
  exact ⟨hf.1.fine hL (by omega) (by omega), hf.1.at_, hs.2.ok.fine hL (by omega) (by omega)⟩
 ·have hp := h.plan (by omega)
  exact ⟨(hp.1.old hp.2.1).1, by have := hp.1.pops; omega⟩
theorem take_counts (f : FiS) (x : Int) : (f.take x).2.limit = f.limit ∧ (f.take x).2.tries = f.tries ∧ (f.take x).2.unl = f.unl := by
 unfold FiS.take
 split <;> exact ⟨rfl, rfl, rfl⟩
theorem tryTake_counts (f : FiS) (x : Int) : (f.tryTake x).2.limit = f.limit ∧ (f.tryTake x).2.tries = f.tries + 1 ∧ (f.tryTake x).2.unl = f.unl := by
 unfold FiS.tryTake
 split
 ·exact ⟨rfl, rfl, rfl⟩
 ·have := take_counts f.try_ x
  exact ⟨this.1, this.2.1, this.2.2⟩
theorem move_counts (L : Ly) (f : FiS) : (f.move L).2.2.limit = f.limit ∧ (f.move L).2.2.tries ≤ f.tries + 1 ∧ (f.move L).2.2.unl = f.unl := by
 unfold FiS.move
 split
 ·exact ⟨rfl, by simp only; omega, rfl⟩
 ·split <;> exact ⟨rfl, by simp only [FiS.try_, FiS.anew]; omega, rfl⟩
theorem look_counts (f : FiS) (x : Int) : (f.look x).2.limit = f.limit ∧ (f.look x).2.tries = f.tries ∧ (f.look x).2.unl = f.unl := by
 unfold FiS.look
 simp only
 split
 ·split <;> exact ⟨rfl, rfl, rfl⟩
 ·split
  ·exact ⟨rfl, rfl, rfl⟩
  ·split <;> exact ⟨rfl, rfl, rfl⟩
theorem fi_counts (M : ML) (m : Mm) (f : FiS) : (stepFi M m f).2.2.limit = f.limit ∧ (stepFi M m f).2.2.tries ≤ f.tries + 1 ∧ ((stepFi M m f).2.2.unl.length : Int) ≤ f.unl.length + 1 := by
 unfold stepFi
 split
 ·simp only
  split
  ·have := tryTake_counts f (ld M m f.pos.pred)
   exact ⟨this.1, by omega, by rw [this.2.2]; omega⟩
  ·have := take_counts f (ld M m f.pos.pred)
   exact ⟨this.1, by omega, by rw [this.2.2]; omega⟩
 ·split
  ·exact ⟨rfl, by simp only; omega, by simp only; omega⟩
  ·split
   ·simp only
    split
    ·have := tryTake_counts f (ld M m f.pos.pred)
     exact ⟨this.1, by simp only; omega, by simp only; rw [this.2.2]; omega⟩
    ·exact ⟨rfl, by simp only; omega, by simp only; omega⟩
   ·split
    ·have := look_counts f (ld M m f.pos.curr)
     exact ⟨this.1, by simp only; omega, by simp only; rw [this.2.2]; omega⟩
    ·split
     ·simp only
      split <;> exact ⟨rfl, by simp only [FiS.try_]; omega, by simp only [FiS.try_]; omega⟩
     ·split
      ·split
       ·have := move_counts M.L { f with unl := f.unl ++ [f.pos.curr] }
        have hl : (f.unl ++ [f.pos.curr]).length = f.unl.length + 1 := by simp
        simp only
        split
        ·have h2 := take_counts (({ f with unl := f.unl ++ [f.pos.curr] } : FiS).move M.L).2.2 f.cut
         have hq := h2.2.1
         have hq2 := this.2.1
         exact ⟨h2.1.trans this.1, by simp only at hq2 ⊢; rw [hq]; exact hq2, by simp only; rw [h2.2.2, this.2.2, hl]; omega⟩
        ·exact ⟨this.1, this.2.1, by simp only; rw [this.2.2, hl]; omega⟩
       ·exact ⟨rfl, by simp only [FiS.try_]; omega, by simp only [FiS.try_]; omega⟩
      ·have := move_counts M.L { f with pos := { f.pos with pred := f.pos.curr }, at_ := 0 }
       have hq := congrArg List.length this.2.2
       exact ⟨this.1, this.2.1, by simp only at hq ⊢; omega⟩
theorem fs_seek {L : Ly} (hL : L.Ok) {me : Int} {t : StS} {f : FsS} {N : Int} (h1 : f.task.may = true) (h2 : 0 ≤ f.most ∧ f.most ≤ 1000) (h3 : 0 ≤ f.tries ∧ f.tries ≤ N) (h4 : f.res.code = 0) (h5 : (t.ret.length : Int) ≤ N) (hN : 0 ≤ N) : FsOk L me t (f.seek L me) N := by
 have hf := fi_new hL me h1 (f.most - f.tries)
 refine ⟨h1, h2, by simp [FsS.seek], h3, fun _ => ⟨by simp only [FsS.seek, FiS.new]; omega, rfl, by simp [FsS.seek, FiS.new]; omega⟩, fun _ => ⟨hf.1.mono hN, hf.2⟩, fun e => by simp [FsS.seek] at e, fun e => by simp [FsS.seek] at e, fun e => by simp [FsS.seek] at e, h4⟩
theorem fs_new {L : Ly} (hL : L.Ok) {me : Int} {t : StS} {k : Tk3} {most N : Int} (h1 : k.may = true) (h2 : 0 ≤ most ∧ most ≤ 1000) (h5 : (t.ret.length : Int) ≤ N) (hN : 0 ≤ N) : FsOk L me t (.new L me k most) N :=
 fs_seek hL h1 h2 (by simp only; omega) rfl h5 hN
theorem fs_again {L : Ly} (hL : L.Ok) {me : Int} {t : StS} {f : FsS} {N : Int} (h1 : f.task.may = true) (h2 : 0 ≤ f.most ∧ f.most ≤ 1000) (h3 : 0 ≤ f.tries ∧ f.tries ≤ N) (h4 : f.res.code = 0) (h5 : (t.ret.length : Int) ≤ N) (hN : 0 ≤ N) : ((f.again L me).1 = false → FsOk L me t (f.again L me).2 (N + 1)) ∧ (f.again L me).2.res.code = 0 := by
 unfold FsS.again
 split
 ·exact ⟨fun e => by simp at e, h4⟩
 ·exact ⟨fun _ => fs_seek hL h1 h2 (by simp only [FsS.try_]; omega) h4 (by omega) (by omega), h4⟩
theorem retire_ok {L : Ly} {t : StS} {N : Int} (h : StOk L t N) {l : List Int} {N' : Int} (hl : Nodes L l) (hn : (t.ret.length : Int) + l.length ≤ N') : StOk L (t.retire l) N' :=
 ⟨h.spare, h.ret.app hl, by simp only [StS.retire, List.length_append]; omega⟩
theorem did_ok {L : Ly} (hL : L.Ok) {t : StS} {N : Int} (h : StOk L t N) {k : Tk3} {p : PlS} (hp : PlOk L p) : StOk L (t.did k p) (N + 1) := by
 have hn := hL.nd
 have h1 : StOk L (if k.links then { t with spare := 0 } else t) N := by
  split
  ·exact ⟨by simp only; omega, h.ret, h.len⟩
  ·exact h
 unfold StS.did
 simp only
 split
 ·rename_i hz
  refine retire_ok h1 (fun x hx => ?_) (by have := h1.len; simp; omega)
  simp at hx
  subst hx
  have := hp.pops
  omega
 ·exact h1.mono (by omega)
theorem fs_step {M : ML} {me : Int} {m : Mm} {t : StS} {f : FsS} {N : Int} (hL : M.L.Ok) (hm : MOk M m) (hu : 0 ≤ me ∧ me < M.L.th) (hN : 0 ≤ N) (ht : StOk M.L t N) (h : FsOk M.L me t f N) :
  Safe M m (stepFs M me m t f).2.1 ∧ StOk M.L (stepFs M me m t f).2.2.1 (N + 1) ∧ ((stepFs M me m t f).1 = false → FsOk M.L me (stepFs M me m t f).2.2.1 (stepFs M me m t f).2.2.2 (N + 1)) ∧ (stepFs M me m t f).2.2.2.res.code = 0 := by
 have hn := hL.nd
 have htl := ht.len
 have htr := h.tries
 unfold stepFs
 split
 ·rename_i h0
  have hsum := h.sum h0
  have hf := h.find h0
  split
  ·exact ⟨.refl hm, ht.mono (by omega), fun e => by simp at e, h.code⟩
  ·have hs := fi_step hL hm hu hN hf.1 hf.2
   simp only
   split
   ·rename_i hr
    refine ⟨hs.1, ?_⟩
    have hok := hs.2.ok
    simp only at hok
    have key : (stepFi M m f.find).2.2.limit = f.find.limit ∧ (stepFi M m f.find).2.2.tries ≤ f.find.tries + 1 ∧ ((stepFi M m f.find).2.2.unl.length : Int) ≤ f.find.unl.length + 1 := fi_counts M m f.find
    unfold FsS.sought
    simp only
    have hrt : StOk M.L (t.retire (stepFi M m f.find).2.2.unl) (N + 1) := retire_ok ht hok.unl.1 (by omega)
    have hnt := hok.tries
    split
    ·exact ⟨hrt, fun e => by simp at e, h.code⟩
    ·rename_i ho
     have ho' : ¬ f.most < f.tries + (stepFi M m f.find).2.2.tries := by
      intro e
      exact ho (decide_eq_true e)
     have hab : (stepFi M m f.find).2.2.ab = false := by
      cases ha : (stepFi M m f.find).2.2.ab with
      | false => rfl
      | true =>
       have := (hok.ab ha).1
       omega
     have hpl := plan_ok hL (hok.pos hab) f.task ht.spare
     have hcd := planFor_code (t := f.task) (p := (stepFi M m f.find).2.2.pos) (n := t.spare)
     split
     ·exact ⟨hrt, fun e => by simp at e, hcd⟩
     ·rename_i hnow
      have hnow' : (planFor f.task (stepFi M m f.find).2.2.pos t.spare).now = false := by simpa using hnow
      split
      ·exact ⟨hrt, fun _ => ⟨h.may, h.most, by simp, by simp only [FsS.try_]; omega, fun e => by simp at e, fun e => by simp at e, fun _ => ⟨hpl, hnow', hcd⟩, fun _ => cl_new (hpl.addr hnow'), fun e => by simp at e, h.code⟩, h.code⟩
      ·split
       ·have hkey := (Tk3.rng h.may).key
        exact ⟨hrt, fun _ => ⟨h.may, h.most, by simp, by simp only [FsS.try_]; omega, fun e => by simp at e, fun e => by simp at e, fun _ => ⟨hpl, hnow', hcd⟩, fun e => by simp at e, fun _ => ⟨by simp only [PrS.new]; omega, (hok.pos hab).curr⟩, h.code⟩, h.code⟩
       ·exact ⟨hrt, fun _ => ⟨h.may, h.most, by simp, by simp only [FsS.try_]; omega, fun e => by simp at e, fun e => by simp at e, fun _ => ⟨hpl, hnow', hcd⟩, fun e => by simp at e, fun e => by simp at e, h.code⟩, h.code⟩
   ·rename_i hr
    have key : (stepFi M m f.find).2.2.limit = f.find.limit ∧ (stepFi M m f.find).2.2.tries ≤ f.find.tries + 1 ∧ ((stepFi M m f.find).2.2.unl.length : Int) ≤ f.find.unl.length + 1 := fi_counts M m f.find
    exact ⟨hs.1, ht.mono (by omega), fun _ => ⟨h.may, h.most, h.at_, by simp only; omega, fun _ => ⟨by simp only; omega, by rw [← hsum.2.1]; exact key.1, by simp only; omega⟩, fun _ => ⟨hs.2.ok, hs.2.live (by simpa using hr)⟩, fun e => by simp only at e; omega, fun e => by simp only at e; omega, fun e => by simp only at e; omega, h.code⟩, h.code⟩
 ·split
  ·rename_i h0 h1
   have hc := cl_step hL hm (h.cl h1)
   simp only
   split
   ·have := fs_again (L := M.L) hL (me := me) (t := t) (f := { f with cl := (stepCl M m f.cl).2.2 }) (N := N) h.may h.most htr h.code htl hN
    exact ⟨hc.1, ht.mono (by omega), this.1, this.2⟩
   ·rename_i hr
    exact ⟨hc.1, ht.mono (by omega), fun _ => ⟨h.may, h.most, h.at_, by simp only; omega, fun e => absurd e h0, fun e => absurd e h0, h.plan, fun _ => hc.2 (by simpa using hr), h.prep, h.code⟩, h.code⟩
  ·split
   ·rename_i h0 h1 h2
    have hp := pr_step hL hm ht (h.prep h2)
    simp only
    refine ⟨hp.1, ht.mono (by omega), fun _ => ⟨h.may, h.most, by simp only; split <;> omega, by simp only; omega, fun e => ?_, fun e => ?_, fun _ => h.plan (by omega), fun e => ?_, fun _ => hp.2, h.code⟩, h.code⟩
    ·simp only at e; split at e <;> omega
    ·simp only at e; split at e <;> omega
    ·simp only at e; split at e <;> omega
   ·rename_i h0 h1 h2
    have hat := h.at_
    have hpl := h.plan (by omega)
    have hw := plan_word hL hpl.1
    split
    ·exact ⟨safe_casW hm hw.2 hL (by have := hpl.1.addr hpl.2.1; omega) hw.1, did_ok hL ht hpl.1, fun e => by simp at e, hpl.2.2⟩
    ·have := fs_again (L := M.L) hL (me := me) (t := t) (f := f) (N := N) h.may h.most htr h.code htl hN
     exact ⟨.refl hm, ht.mono (by omega), this.1, this.2⟩
structure HpOk (L : Ly) (me : Int) (t : StS) (h : HpS) (N : Int) : Prop where
 u : 0 ≤ h.u ∧ h.u < L.th
 rounds : 0 ≤ h.rounds ∧ h.rounds ≤ N
 found : 0 ≤ h.found ∧ h.found < 18446744073709551616
 at_ : 0 ≤ h.at_ ∧ h.at_ ≤ 9
 may : 3 ≤ h.at_ → h.task.may = true
 pend : 1 ≤ h.at_ → h.at_ ≤ 2 → (getD' h.found).pend = true
 st1 : 4 ≤ h.at_ → (getD' h.found).status = 1
 exec : h.at_ = 3 → ExOk L h.exec ∧ (0 ≤ h.exec.popped ∧ h.exec.popped ≤ L.nd)
 ens : h.at_ = 4 → EnOk L h.ens N
 find : h.at_ = 5 → (FiOk L me h.find N ∧ FiLive L h.find) ∧ (t.ret.length : Int) + h.find.unl.length ≤ N
 plan : 6 ≤ h.at_ → PlOk L h.plan
 now : 7 ≤ h.at_ → h.plan.now = false
 cl : h.at_ = 7 → ClOk L h.cl
 prep : h.at_ = 8 → PrOk L h.prep
theorem HpOk.fine {M : ML} {me : Int} {m : Mm} {t : StS} {h : HpS} {N : Int} (hL : M.L.Ok) (hm : MOk M m) (hu : 0 ≤ me ∧ me < M.L.th) (hh : HpOk M.L me t h N) (hN0 : 0 ≤ N) (hN : N ≤ 90000) : h.Fine M m := by
 have hth := hL.th
 refine ⟨⟨hh.found, by have := hh.u; omega, by have := hh.rounds; omega⟩, hh.at_, fun e => hh.may (by omega), fun e => (hh.exec e).1.at_, fun e => (hh.ens e).live, fun e => ?_, fun e => (hh.prep e).key.1, fun e => ((hh.plan (by omega)).old (hh.now (by omega))).1⟩
 have hf := (hh.find e).1
 have hs := fi_step hL hm hu hN0 hf.1 hf.2
 exact ⟨hf.1.fine hL (by omega) (by omega), hf.1.at_, hs.2.ok.fine hL (by omega) (by omega)⟩
theorem hp_new {L : Ly} (_ : L.Ok) (me : Int) (t : StS) {u : Int} (hu : 0 ≤ u ∧ u < L.th) (no limit : Int) {N : Int} (hN : 0 ≤ N) : HpOk L me t (.new L u no limit) N := by
 refine ⟨hu, by simp only [HpS.new]; omega, by simp [HpS.new], by simp [HpS.new], ?_, ?_, ?_, ?_, ?_, ?_, ?_, ?_, ?_, ?_⟩ <;> (intro e; simp [HpS.new] at e)
theorem hp_search {L : Ly} (hL : L.Ok) {me : Int} {t : StS} {h : HpS} {N : Int} (h1 : 0 ≤ h.u ∧ h.u < L.th) (h2 : 0 ≤ h.rounds ∧ h.rounds ≤ N) (h3 : 0 ≤ h.found ∧ h.found < 18446744073709551616) (h4 : h.task.may = true) (h5 : (getD' h.found).status = 1) (h6 : (t.ret.length : Int) ≤ N) (hN : 0 ≤ N) : HpOk L me t (h.search L me) N := by
 have hf := fi_new hL me h4 h.limit
 exact ⟨h1, h2, h3, by simp [HpS.search], fun _ => h4, fun _ e => by simp [HpS.search] at e, fun _ => h5, fun e => by simp [HpS.search] at e, fun e => by simp [HpS.search] at e, fun _ => ⟨⟨hf.1.mono hN, hf.2⟩, by simp [HpS.search, FiS.new]; omega⟩, fun e => by simp [HpS.search] at e, fun e => by simp [HpS.search] at e, fun e => by simp [HpS.search] at e, fun e => by simp [HpS.search] at e⟩
theorem hp_asks {L : Ly} {me : Int} {t : StS} {h : HpS} {N : Int} (h1 : 0 ≤ h.u ∧ h.u < L.th) (h2 : 0 ≤ h.rounds ∧ h.rounds ≤ N) (h3 : 0 ≤ h.found ∧ h.found < 18446744073709551616) (h0 : h.at_ = 0) : HpOk L me t h N := by
 refine ⟨h1, h2, h3, by omega, ?_, ?_, ?_, ?_, ?_, ?_, ?_, ?_, ?_, ?_⟩ <;> (intro e; omega)
theorem fullPlan_ok {L : Ly} (hL : L.Ok) : PlOk L fullPlan := by
 have := hL.nd
 exact ⟨fun h => by simp [fullPlan] at h, fun h => by simp [fullPlan] at h, fun h => by simp [fullPlan] at h, by simp [fullPlan], by simp only [fullPlan]; omega, .inr rfl⟩
theorem hp_begin {L : Ly} (hL : L.Ok) {me : Int} {t : StS} {h : HpS} {N : Int} (hh : HpOk L me t h N) (_ : h.at_ = 2) (x : Int) (h6 : (t.ret.length : Int) ≤ N) (hN : 0 ≤ N) : (h.begin_ L me t x).1 = false → HpOk L me t (h.begin_ L me t x).2 N := by
 intro e
 unfold HpS.begin_ at e ⊢
 split at e
 ·simp at e
 ·rename_i hk
  rw [if_neg hk]
  have hmay : (tkOf x).may = true := by
   have hk' : tkOk x = true := by simpa using hk
   unfold tkOk at hk'
   simp only [Bool.and_eq_true] at hk'
   exact hk'.2
  simp only at e ⊢
  split at e
  ·rename_i hs
   rw [if_pos hs]
   have := ex_new (L := L) hh.u (tkOf x) (getD' h.found).att
   have hn := hL.nd
   refine ⟨hh.u, hh.rounds, hh.found, by simp, fun _ => hmay, fun _ e => by simp at e, fun e => by simp at e, fun _ => ⟨this.1, ?_⟩, fun e => by simp at e, fun e => by simp at e, fun e => by simp at e, fun e => by simp at e, fun e => by simp at e, fun e => by simp at e⟩
   have h3 := this.2
   simp only
   omega
  ·rename_i hs
   rw [if_neg hs]
   have hs' : (getD' h.found).status = 1 := by simpa using hs
   split
   ·exact ⟨hh.u, hh.rounds, hh.found, by simp, fun _ => hmay, fun _ e => by simp at e, fun _ => hs', fun e => by simp at e, fun _ => en_new L N, fun e => by simp at e, fun e => by simp at e, fun e => by simp at e, fun e => by simp at e, fun e => by simp at e⟩
   ·exact hp_search hL hh.u hh.rounds hh.found hmay hs' h6 hN
theorem stepHp_0 {M : ML} {me : Int} {m : Mm} {t : StS} {h : HpS} (h0 : h.at_ = 0) : stepHp M me m t h = (!(getD' (ld M m (M.L.desc h.u))).pend, m, t, { h with found := ld M m (M.L.desc h.u), rounds := h.rounds + 1, at_ := 1 }) := by
 unfold stepHp; simp only; rw [if_pos h0]
theorem stepHp_1 {M : ML} {me : Int} {m : Mm} {t : StS} {h : HpS} (h0 : h.at_ = 1) : stepHp M me m t h = (decide (ld M m (M.L.ticket h.u) ≠ h.no), m, t, { h with at_ := 2 }) := by
 unfold stepHp; simp only; rw [if_neg (by rw [h0]; decide)]; rw [if_pos h0]
theorem stepHp_2 {M : ML} {me : Int} {m : Mm} {t : StS} {h : HpS} (h0 : h.at_ = 2) : stepHp M me m t h = ((h.begin_ M.L me t (ld M m (M.L.task h.u))).1, m, t, (h.begin_ M.L me t (ld M m (M.L.task h.u))).2) := by
 unfold stepHp; simp only; rw [if_neg (by rw [h0]; decide)]; rw [if_neg (by rw [h0]; decide)]; rw [if_pos h0]
theorem stepHp_3 {M : ML} {me : Int} {m : Mm} {t : StS} {h : HpS} (h0 : h.at_ = 3) : stepHp M me m t h = (false, (stepEx M m h.exec).2.1, if (stepEx M m h.exec).1 ∧ (stepEx M m h.exec).2.2.popped ≠ 0 then t.retire [(stepEx M m h.exec).2.2.popped] else t, { h with exec := (stepEx M m h.exec).2.2, at_ := if (stepEx M m h.exec).1 then 0 else 3 }) := by
 unfold stepHp; simp only; rw [if_neg (by rw [h0]; decide)]; rw [if_neg (by rw [h0]; decide)]; rw [if_neg (by rw [h0]; decide)]; rw [if_pos h0]
theorem stepHp_4 {M : ML} {me : Int} {m : Mm} {t : StS} {h : HpS} (h0 : h.at_ = 4) : stepHp M me m t h = (false, (stepEn M me m t h.ens).2.1, (stepEn M me m t h.ens).2.2.1, if (stepEn M me m t h.ens).1 = false then { h with ens := (stepEn M me m t h.ens).2.2.2 } else if (stepEn M me m t h.ens).2.2.2.short then { h with ens := (stepEn M me m t h.ens).2.2.2, at_ := 6, plan := fullPlan } else HpS.search M.L me { h with ens := (stepEn M me m t h.ens).2.2.2 }) := by
 unfold stepHp; simp only; rw [if_neg (by rw [h0]; decide)]; rw [if_neg (by rw [h0]; decide)]; rw [if_neg (by rw [h0]; decide)]; rw [if_neg (by rw [h0]; decide)]; rw [if_pos h0]
theorem stepHp_5 {M : ML} {me : Int} {m : Mm} {t : StS} {h : HpS} (h0 : h.at_ = 5) : stepHp M me m t h = if (stepFi M m h.find).1 then (false, (stepFi M m h.find).2.1, t.retire (stepFi M m h.find).2.2.unl, HpS.soughtS t.spare { h with find := (stepFi M m h.find).2.2 }) else (false, (stepFi M m h.find).2.1, t, { h with find := (stepFi M m h.find).2.2 }) := by
 unfold stepHp; simp only; rw [if_neg (by rw [h0]; decide)]; rw [if_neg (by rw [h0]; decide)]; rw [if_neg (by rw [h0]; decide)]; rw [if_neg (by rw [h0]; decide)]; rw [if_neg (by rw [h0]; decide)]; rw [if_pos h0]; simp only [HpS.sought_eq]
theorem stepHp_6 {M : ML} {me : Int} {m : Mm} {t : StS} {h : HpS} (h0 : h.at_ = 6) : stepHp M me m t h = (false, cas M m (M.L.desc h.u) h.found (putD ((getD' h.found).ended h.plan.res.code h.plan.res.ok h.plan.res.val)), t, { h with at_ := 0 }) := by
 unfold stepHp; simp only; rw [if_neg (by rw [h0]; decide)]; rw [if_neg (by rw [h0]; decide)]; rw [if_neg (by rw [h0]; decide)]; rw [if_neg (by rw [h0]; decide)]; rw [if_neg (by rw [h0]; decide)]; rw [if_neg (by rw [h0]; decide)]; rw [if_pos h0]
theorem stepHp_7 {M : ML} {me : Int} {m : Mm} {t : StS} {h : HpS} (h0 : h.at_ = 7) : stepHp M me m t h = (false, (stepCl M m h.cl).2.1, t, { h with cl := (stepCl M m h.cl).2.2, at_ := if (stepCl M m h.cl).1 then 0 else 7 }) := by
 unfold stepHp; simp only; rw [if_neg (by rw [h0]; decide)]; rw [if_neg (by rw [h0]; decide)]; rw [if_neg (by rw [h0]; decide)]; rw [if_neg (by rw [h0]; decide)]; rw [if_neg (by rw [h0]; decide)]; rw [if_neg (by rw [h0]; decide)]; rw [if_neg (by rw [h0]; decide)]; rw [if_pos h0]
theorem stepHp_8 {M : ML} {me : Int} {m : Mm} {t : StS} {h : HpS} (h0 : h.at_ = 8) : stepHp M me m t h = (false, (stepPr M m t h.prep).2.1, t, { h with prep := (stepPr M m t h.prep).2.2, at_ := if (stepPr M m t h.prep).1 then 9 else 8 }) := by
 unfold stepHp; simp only; rw [if_neg (by rw [h0]; decide)]; rw [if_neg (by rw [h0]; decide)]; rw [if_neg (by rw [h0]; decide)]; rw [if_neg (by rw [h0]; decide)]; rw [if_neg (by rw [h0]; decide)]; rw [if_neg (by rw [h0]; decide)]; rw [if_neg (by rw [h0]; decide)]; rw [if_neg (by rw [h0]; decide)]; rw [if_pos h0]
theorem stepHp_9 {M : ML} {me : Int} {m : Mm} {t : StS} {h : HpS} (h0 : h.at_ = 9) : stepHp M me m t h = (false, cas M m (M.L.desc h.u) h.found (h.plan.desc (getD' h.found).att), if casOk M m (M.L.desc h.u) h.found && h.task.links then { t with spare := 0 } else t, { h with at_ := 0 }) := by
 unfold stepHp; simp only; rw [if_neg (by rw [h0]; decide)]; rw [if_neg (by rw [h0]; decide)]; rw [if_neg (by rw [h0]; decide)]; rw [if_neg (by rw [h0]; decide)]; rw [if_neg (by rw [h0]; decide)]; rw [if_neg (by rw [h0]; decide)]; rw [if_neg (by rw [h0]; decide)]; rw [if_neg (by rw [h0]; decide)]; rw [if_neg (by rw [h0]; decide)]
theorem hp_step0 {M : ML} {me : Int} {m : Mm} {t : StS} {h : HpS} {N : Int} (hL : M.L.Ok) (hm : MOk M m) (_ : 0 ≤ me ∧ me < M.L.th) (_ : 0 ≤ N) (ht : StOk M.L t N) (hh : HpOk M.L me t h N) (h0 : h.at_ = 0) : Safe M m (stepHp M me m t h).2.1 ∧ StOk M.L (stepHp M me m t h).2.2.1 (N + 1) ∧ ((stepHp M me m t h).1 = false → HpOk M.L me (stepHp M me m t h).2.2.1 (stepHp M me m t h).2.2.2 (N + 1)) := by
 have hn := hL.nd
 have htl := ht.len
 have hr := hh.rounds
 rw [stepHp_0 h0]
 refine ⟨.refl hm, ht.mono (by omega), fun e => ?_⟩
 have hvr := ld_rngP (M := M) hm.rng (M.L.desc h.u)
 have e' : (getD' (ld M m (M.L.desc h.u))).pend = true := by
  cases hp : (getD' (ld M m (M.L.desc h.u))).pend with
  | true => rfl
  | false => simp only [hp] at e; cases e
 exact ⟨hh.u, by simp only; omega, hvr, by simp, fun e => by simp at e, fun _ _ => e', fun e => by simp at e, fun e => by simp at e, fun e => by simp at e, fun e => by simp at e, fun e => by simp at e, fun e => by simp at e, fun e => by simp at e, fun e => by simp at e⟩
theorem hp_step1 {M : ML} {me : Int} {m : Mm} {t : StS} {h : HpS} {N : Int} (hL : M.L.Ok) (hm : MOk M m) (_ : 0 ≤ me ∧ me < M.L.th) (_ : 0 ≤ N) (ht : StOk M.L t N) (hh : HpOk M.L me t h N) (h0 : h.at_ = 1) : Safe M m (stepHp M me m t h).2.1 ∧ StOk M.L (stepHp M me m t h).2.2.1 (N + 1) ∧ ((stepHp M me m t h).1 = false → HpOk M.L me (stepHp M me m t h).2.2.1 (stepHp M me m t h).2.2.2 (N + 1)) := by
 have hn := hL.nd
 have htl := ht.len
 have hr := hh.rounds
 rw [stepHp_1 h0]
 exact ⟨.refl hm, ht.mono (by omega), fun _ => ⟨hh.u, (by omega : (0 : Int) ≤ h.rounds ∧ h.rounds ≤ N + 1), hh.found, by simp, fun e => by simp at e, fun _ _ => hh.pend (by omega) (by omega), fun e => by simp at e, fun e => by simp at e, fun e => by simp at e, fun e => by simp at e, fun e => by simp at e, fun e => by simp at e, fun e => by simp at e, fun e => by simp at e⟩⟩
theorem hp_step2 {M : ML} {me : Int} {m : Mm} {t : StS} {h : HpS} {N : Int} (hL : M.L.Ok) (hm : MOk M m) (_ : 0 ≤ me ∧ me < M.L.th) (hN : 0 ≤ N) (ht : StOk M.L t N) (hh : HpOk M.L me t h N) (h0 : h.at_ = 2) : Safe M m (stepHp M me m t h).2.1 ∧ StOk M.L (stepHp M me m t h).2.2.1 (N + 1) ∧ ((stepHp M me m t h).1 = false → HpOk M.L me (stepHp M me m t h).2.2.1 (stepHp M me m t h).2.2.2 (N + 1)) := by
 have hn := hL.nd
 have htl := ht.len
 have hr := hh.rounds
 rw [stepHp_2 h0]
 refine ⟨.refl hm, ht.mono (by omega), fun e => ?_⟩
 have hup : HpOk M.L me t h (N + 1) := ⟨hh.u, by omega, hh.found, hh.at_, hh.may, hh.pend, hh.st1, hh.exec, fun e => (hh.ens e).mono (by omega), fun e => ⟨⟨(hh.find e).1.1.mono (by omega), (hh.find e).1.2⟩, by have := (hh.find e).2; omega⟩, hh.plan, hh.now, hh.cl, hh.prep⟩
 exact hp_begin hL hup h0 _ (by omega) (by omega) e
theorem hp_step3 {M : ML} {me : Int} {m : Mm} {t : StS} {h : HpS} {N : Int} (hL : M.L.Ok) (hm : MOk M m) (_ : 0 ≤ me ∧ me < M.L.th) (_ : 0 ≤ N) (ht : StOk M.L t N) (hh : HpOk M.L me t h N) (h0 : h.at_ = 3) : Safe M m (stepHp M me m t h).2.1 ∧ StOk M.L (stepHp M me m t h).2.2.1 (N + 1) ∧ ((stepHp M me m t h).1 = false → HpOk M.L me (stepHp M me m t h).2.2.1 (stepHp M me m t h).2.2.2 (N + 1)) := by
 have hn := hL.nd
 have htl := ht.len
 have hr := hh.rounds
 rw [stepHp_3 h0]
 have hx := hh.exec h0
 have hs := ex_step hL hm hx.1 hx.2
 refine ⟨hs.1, ?_, fun _ => ?_⟩
 ·simp only
  split
  ·rename_i hp
   refine retire_ok ht (fun x hx => ?_) (by simp; omega)
   simp at hx
   subst hx
   have h9 := hs.2.2
   have h8 := hp.2
   omega
  ·exact ht.mono (by omega)
 ·cases hq : (stepEx M m h.exec).1 with
  | true => exact hp_asks hh.u (by omega : (0 : Int) ≤ h.rounds ∧ h.rounds ≤ N + 1) hh.found (by simp)
  | false => exact ⟨hh.u, (by omega : (0 : Int) ≤ h.rounds ∧ h.rounds ≤ N + 1), hh.found, by simp, fun _ => hh.may (by omega), fun _ e => by simp at e, fun e => by simp at e, fun _ => ⟨hs.2.1 hq, hs.2.2⟩, fun e => by simp at e, fun e => by simp at e, fun e => by simp at e, fun e => by simp at e, fun e => by simp at e, fun e => by simp at e⟩
theorem hp_step4 {M : ML} {me : Int} {m : Mm} {t : StS} {h : HpS} {N : Int} (hL : M.L.Ok) (hm : MOk M m) (_ : 0 ≤ me ∧ me < M.L.th) (hN : 0 ≤ N) (ht : StOk M.L t N) (hh : HpOk M.L me t h N) (h0 : h.at_ = 4) : Safe M m (stepHp M me m t h).2.1 ∧ StOk M.L (stepHp M me m t h).2.2.1 (N + 1) ∧ ((stepHp M me m t h).1 = false → HpOk M.L me (stepHp M me m t h).2.2.1 (stepHp M me m t h).2.2.2 (N + 1)) := by
 have hn := hL.nd
 have htl := ht.len
 have hr := hh.rounds
 rw [stepHp_4 h0]
 have hs := en_step (me := me) hL hm ht (hh.ens h0)
 have hst := hh.st1 (by omega)
 have hmay := hh.may (by omega)
 have hrl := hs.2.1.len
 refine ⟨hs.1, hs.2.1.mono (by omega), fun _ => ?_⟩
 simp only
 split
 ·rename_i hq
  exact ⟨hh.u, (by omega : (0 : Int) ≤ h.rounds ∧ h.rounds ≤ N + 1), hh.found, hh.at_, fun _ => hmay, fun e1 e2 => by simp only at e1 e2; omega, fun _ => hst, fun e => by simp only at e; omega, fun _ => (hs.2.2 hq).mono (by omega), fun e => by simp only at e; omega, fun e => by simp only at e; omega, fun e => by simp only at e; omega, fun e => by simp only at e; omega, fun e => by simp only at e; omega⟩
 ·split
  ·exact ⟨hh.u, (by omega : (0 : Int) ≤ h.rounds ∧ h.rounds ≤ N + 1), hh.found, by simp, fun _ => hmay, fun _ e => by simp at e, fun _ => hst, fun e => by simp at e, fun e => by simp at e, fun e => by simp at e, fun _ => fullPlan_ok hL, fun e => by simp at e, fun e => by simp at e, fun e => by simp at e⟩
  ·exact hp_search hL hh.u (by omega : (0 : Int) ≤ h.rounds ∧ h.rounds ≤ N + 1) hh.found hmay hst (by omega) (by omega)
theorem hp_step5 {M : ML} {me : Int} {m : Mm} {t : StS} {h : HpS} {N : Int} (hL : M.L.Ok) (hm : MOk M m) (hu : 0 ≤ me ∧ me < M.L.th) (hN : 0 ≤ N) (ht : StOk M.L t N) (hh : HpOk M.L me t h N) (h0 : h.at_ = 5) : Safe M m (stepHp M me m t h).2.1 ∧ StOk M.L (stepHp M me m t h).2.2.1 (N + 1) ∧ ((stepHp M me m t h).1 = false → HpOk M.L me (stepHp M me m t h).2.2.1 (stepHp M me m t h).2.2.2 (N + 1)) := by
 have hn := hL.nd
 have htl := ht.len
 have hr := hh.rounds
 rw [stepHp_5 h0]
 have hf := (hh.find h0).1
 have hsum := (hh.find h0).2
 have hs := fi_step hL hm hu hN hf.1 hf.2
 have hok := hs.2.ok
 have hct := fi_counts M m h.find
 have hst := hh.st1 (by omega)
 have hmay := hh.may (by omega)
 simp only at hok
 split
 ·rename_i hq
  refine ⟨hs.1, ?_⟩
  have hrt : StOk M.L (t.retire (stepFi M m h.find).2.2.unl) (N + 1) := retire_ok ht hok.unl.1 (by omega)
  refine ⟨hrt, fun _ => ?_⟩
  unfold HpS.soughtS
  simp only
  split
  ·exact hp_asks hh.u (by omega : (0 : Int) ≤ h.rounds ∧ h.rounds ≤ N + 1) hh.found (by simp)
  ·rename_i hab
   have hab' : (stepFi M m h.find).2.2.ab = false := by simpa using hab
   have hpl := plan_ok hL (hok.pos hab') h.task ht.spare
   split
   ·exact ⟨hh.u, (by omega : (0 : Int) ≤ h.rounds ∧ h.rounds ≤ N + 1), hh.found, by simp, fun _ => hmay, fun _ e => by simp at e, fun _ => hst, fun e => by simp at e, fun e => by simp at e, fun e => by simp at e, fun _ => hpl, fun e => by simp at e, fun e => by simp at e, fun e => by simp at e⟩
   ·rename_i hnow
    have hnow' : (planFor h.task (stepFi M m h.find).2.2.pos t.spare).now = false := by simpa using hnow
    split
    ·exact ⟨hh.u, (by omega : (0 : Int) ≤ h.rounds ∧ h.rounds ≤ N + 1), hh.found, by simp, fun _ => hmay, fun _ e => by simp at e, fun _ => hst, fun e => by simp at e, fun e => by simp at e, fun e => by simp at e, fun _ => hpl, fun _ => hnow', fun _ => cl_new (hpl.addr hnow'), fun e => by simp at e⟩
    ·split
     ·have hkey := (Tk3.rng hmay).key
      exact ⟨hh.u, (by omega : (0 : Int) ≤ h.rounds ∧ h.rounds ≤ N + 1), hh.found, by simp, fun _ => hmay, fun _ e => by simp at e, fun _ => hst, fun e => by simp at e, fun e => by simp at e, fun e => by simp at e, fun _ => hpl, fun _ => hnow', fun e => by simp at e, fun _ => ⟨by simp only [PrS.new]; omega, (hok.pos hab').curr⟩⟩
     ·exact ⟨hh.u, (by omega : (0 : Int) ≤ h.rounds ∧ h.rounds ≤ N + 1), hh.found, by simp, fun _ => hmay, fun _ e => by simp at e, fun _ => hst, fun e => by simp at e, fun e => by simp at e, fun e => by simp at e, fun _ => hpl, fun _ => hnow', fun e => by simp at e, fun e => by simp at e⟩
 ·rename_i hq
  exact ⟨hs.1, ht.mono (by omega), fun _ => ⟨hh.u, (by omega : (0 : Int) ≤ h.rounds ∧ h.rounds ≤ N + 1), hh.found, hh.at_, fun _ => hmay, fun e1 e2 => by simp only at e1 e2; omega, fun _ => hst, fun e => by simp only at e; omega, fun e => by simp only at e; omega, fun _ => ⟨⟨hok, hs.2.live (by simpa using hq)⟩, by simp only; omega⟩, fun e => by simp only at e; omega, fun e => by simp only at e; omega, fun e => by simp only at e; omega, fun e => by simp only at e; omega⟩⟩
theorem hp_step6 {M : ML} {me : Int} {m : Mm} {t : StS} {h : HpS} {N : Int} (hL : M.L.Ok) (hm : MOk M m) (_ : 0 ≤ me ∧ me < M.L.th) (_ : 0 ≤ N) (ht : StOk M.L t N) (hh : HpOk M.L me t h N) (h0 : h.at_ = 6) : Safe M m (stepHp M me m t h).2.1 ∧ StOk M.L (stepHp M me m t h).2.2.1 (N + 1) ∧ ((stepHp M me m t h).1 = false → HpOk M.L me (stepHp M me m t h).2.2.1 (stepHp M me m t h).2.2.2 (N + 1)) := by
 have hn := hL.nd
 have htl := ht.len
 have hr := hh.rounds
 rw [stepHp_6 h0]
 have hp := hh.plan (by omega)
 exact ⟨safe_casD hm (putD_rng64 _) hL hh.u (dpath_tells (hh.st1 (by omega)) _ _ _ hp.val), ht.mono (by omega), fun _ => hp_asks hh.u (by omega : (0 : Int) ≤ h.rounds ∧ h.rounds ≤ N + 1) hh.found (by simp)⟩
theorem hp_step7 {M : ML} {me : Int} {m : Mm} {t : StS} {h : HpS} {N : Int} (hL : M.L.Ok) (hm : MOk M m) (_ : 0 ≤ me ∧ me < M.L.th) (_ : 0 ≤ N) (ht : StOk M.L t N) (hh : HpOk M.L me t h N) (h0 : h.at_ = 7) : Safe M m (stepHp M me m t h).2.1 ∧ StOk M.L (stepHp M me m t h).2.2.1 (N + 1) ∧ ((stepHp M me m t h).1 = false → HpOk M.L me (stepHp M me m t h).2.2.1 (stepHp M me m t h).2.2.2 (N + 1)) := by
 have hn := hL.nd
 have htl := ht.len
 have hr := hh.rounds
 rw [stepHp_7 h0]
 have hc := cl_step hL hm (hh.cl h0)
 refine ⟨hc.1, ht.mono (by omega), fun _ => ?_⟩
 cases hq : (stepCl M m h.cl).1 with
 | true => exact hp_asks hh.u (by omega : (0 : Int) ≤ h.rounds ∧ h.rounds ≤ N + 1) hh.found (by simp)
 | false => exact ⟨hh.u, (by omega : (0 : Int) ≤ h.rounds ∧ h.rounds ≤ N + 1), hh.found, by simp, fun _ => hh.may (by omega), fun _ e => by simp at e, fun _ => hh.st1 (by omega), fun e => by simp at e, fun e => by simp at e, fun e => by simp at e, fun _ => hh.plan (by omega), fun _ => hh.now (by omega), fun _ => hc.2 hq, fun e => by simp at e⟩
theorem hp_step8 {M : ML} {me : Int} {m : Mm} {t : StS} {h : HpS} {N : Int} (hL : M.L.Ok) (hm : MOk M m) (_ : 0 ≤ me ∧ me < M.L.th) (_ : 0 ≤ N) (ht : StOk M.L t N) (hh : HpOk M.L me t h N) (h0 : h.at_ = 8) : Safe M m (stepHp M me m t h).2.1 ∧ StOk M.L (stepHp M me m t h).2.2.1 (N + 1) ∧ ((stepHp M me m t h).1 = false → HpOk M.L me (stepHp M me m t h).2.2.1 (stepHp M me m t h).2.2.2 (N + 1)) := by
 have hn := hL.nd
 have htl := ht.len
 have hr := hh.rounds
 rw [stepHp_8 h0]
 have hp := pr_step hL hm ht (hh.prep h0)
 refine ⟨hp.1, ht.mono (by omega), fun _ => ?_⟩
 cases hq : (stepPr M m t h.prep).1 with
 | true => exact ⟨hh.u, (by omega : (0 : Int) ≤ h.rounds ∧ h.rounds ≤ N + 1), hh.found, by simp, fun _ => hh.may (by omega), fun _ e => by simp at e, fun _ => hh.st1 (by omega), fun e => by simp at e, fun e => by simp at e, fun e => by simp at e, fun _ => hh.plan (by omega), fun _ => hh.now (by omega), fun e => by simp at e, fun e => by simp at e⟩
 | false => exact ⟨hh.u, (by omega : (0 : Int) ≤ h.rounds ∧ h.rounds ≤ N + 1), hh.found, by simp, fun _ => hh.may (by omega), fun _ e => by simp at e, fun _ => hh.st1 (by omega), fun e => by simp at e, fun e => by simp at e, fun e => by simp at e, fun _ => hh.plan (by omega), fun _ => hh.now (by omega), fun e => by simp at e, fun _ => hp.2⟩
theorem hp_step9 {M : ML} {me : Int} {m : Mm} {t : StS} {h : HpS} {N : Int} (hL : M.L.Ok) (hm : MOk M m) (_ : 0 ≤ me ∧ me < M.L.th) (_ : 0 ≤ N) (ht : StOk M.L t N) (hh : HpOk M.L me t h N) (h0 : h.at_ = 9) : Safe M m (stepHp M me m t h).2.1 ∧ StOk M.L (stepHp M me m t h).2.2.1 (N + 1) ∧ ((stepHp M me m t h).1 = false → HpOk M.L me (stepHp M me m t h).2.2.1 (stepHp M me m t h).2.2.2 (N + 1)) := by
 have hn := hL.nd
 have htl := ht.len
 have hr := hh.rounds
 rw [stepHp_9 h0]
 have hp := hh.plan (by omega)
 have hd := plan_desc hL hp (hh.now (by omega)) (hh.st1 (by omega))
 refine ⟨safe_casD hm hd.2.1 hL hh.u hd.1, ?_, fun _ => hp_asks hh.u (by omega : (0 : Int) ≤ h.rounds ∧ h.rounds ≤ N + 1) hh.found (by simp)⟩
 simp only
 split
 ·exact ⟨by simp only; omega, ht.ret, by simp only; omega⟩
 ·exact ht.mono (by omega)
theorem hp_step {M : ML} {me : Int} {m : Mm} {t : StS} {h : HpS} {N : Int} (hL : M.L.Ok) (hm : MOk M m) (hu : 0 ≤ me ∧ me < M.L.th) (hN : 0 ≤ N) (ht : StOk M.L t N) (hh : HpOk M.L me t h N) : Safe M m (stepHp M me m t h).2.1 ∧ StOk M.L (stepHp M me m t h).2.2.1 (N + 1) ∧ ((stepHp M me m t h).1 = false → HpOk M.L me (stepHp M me m t h).2.2.1 (stepHp M me m t h).2.2.2 (N + 1)) := by
 rcases (by have := hh.at_; omega : h.at_ = 0 ∨ h.at_ = 1 ∨ h.at_ = 2 ∨ h.at_ = 3 ∨ h.at_ = 4 ∨ h.at_ = 5 ∨ h.at_ = 6 ∨ h.at_ = 7 ∨ h.at_ = 8 ∨ h.at_ = 9) with h0 | h0 | h0 | h0 | h0 | h0 | h0 | h0 | h0 | h0
 ·exact hp_step0 hL hm hu hN ht hh h0
 ·exact hp_step1 hL hm hu hN ht hh h0
 ·exact hp_step2 hL hm hu hN ht hh h0
 ·exact hp_step3 hL hm hu hN ht hh h0
 ·exact hp_step4 hL hm hu hN ht hh h0
 ·exact hp_step5 hL hm hu hN ht hh h0
 ·exact hp_step6 hL hm hu hN ht hh h0
 ·exact hp_step7 hL hm hu hN ht hh h0
 ·exact hp_step8 hL hm hu hN ht hh h0
 ·exact hp_step9 hL hm hu hN ht hh h0
abbrev stt (M : ML) (m : Mm) (u : Int) : Int := (getD' (ld M m (M.L.desc u))).status
def Idle (M : ML) (m : Mm) (u : Int) : Prop := stt M m u = 0 ∨ stt M m u = 5
structure Rel (M : ML) (me : Int) (m m' : Mm) : Prop where
 rng : Rng m'
 word : ∀ a, 1 ≤ a → a ≤ M.L.nd + 4 → (getW (ld M m' a)).next ≤ M.L.nd
 desc : ∀ v, 0 ≤ v → v < M.L.th → ld M m' (M.L.desc v) = ld M m (M.L.desc v) ∨ DPath M.L (ld M m (M.L.desc v)) (ld M m' (M.L.desc v)) ∨ (v = me ∧ Idle M m me ∧ getD' (ld M m' (M.L.desc v)) = (getD' (ld M m (M.L.desc v))).next1)
 task : ∀ v, 0 ≤ v → v < M.L.th → v ≠ me → ld M m' (M.L.task v) = ld M m (M.L.task v)
 tick : ∀ v, 0 ≤ v → v < M.L.th → v ≠ me → ld M m' (M.L.ticket v) = ld M m (M.L.ticket v)
 life : ∀ n, 1 ≤ n → n ≤ M.L.nd → ld M m' (M.L.life n) = ld M m (M.L.life n) ∨ ld M m' (M.L.life n) = (ld M m (M.L.life n) + 1) % 18446744073709551616
theorem Safe.rel {M : ML} {m m' : Mm} (h : Safe M m m') (me : Int) : Rel M me m m' := ⟨h.rng, h.word, fun v h0 h1 => (h.desc v h0 h1).imp id .inl, fun v h0 h1 _ => h.task v h0 h1, fun v h0 h1 _ => h.tick v h0 h1, h.life⟩
theorem next1_val (L : Ly) {x y : Int} (h : getD' y = (getD' x).next1) : DVal L y := ⟨by rw [h]; simp [Ds.next1], fun h5 => by rw [h] at h5; simp [Ds.next1] at h5⟩
theorem Rel.ok {M : ML} {me : Int} {m m' : Mm} (h : Rel M me m m') (hm : MOk M m) : MOk M m' :=
 ⟨h.rng, h.word, fun v h0 h1 => (h.desc v h0 h1).elim (fun e => by rw [e]; exact hm.desc v h0 h1) (fun e => e.elim (·.ok) (fun e => next1_val _ e.2.2))⟩
theorem dpath_from {L : Ly} {x y : Int} (h : DPath L x y) : 1 ≤ (getD' x).status ∧ (getD' x).status ≤ 4 ∧ 1 ≤ (getD' y).status := by
 rcases h.path with ⟨h1, -, h2⟩ | ⟨h1, h2⟩ | ⟨h1, h2⟩ | ⟨h1, h2⟩
 ·omega
 ·rcases h2 with h2 | h2 <;> (rw [h2]; simp only [Ds.with_]; omega)
 ·rw [h2]; simp only; omega
 ·rw [h2]; simp only [Ds.next1]; omega
theorem Safe.idle {M : ML} {m m' : Mm} (h : Safe M m m') {u : Int} (hu : 0 ≤ u ∧ u < M.L.th) (hi : Idle M m u) : ld M m' (M.L.desc u) = ld M m (M.L.desc u) := by
 rcases h.desc u hu.1 hu.2 with e | e
 ·exact e
 ·have := dpath_from e
  unfold Idle stt at hi
  omega
theorem Safe.stay {M : ML} {m m' : Mm} (h : Safe M m m') {u : Int} (hu : 0 ≤ u ∧ u < M.L.th) (hi : 1 ≤ stt M m u) : 1 ≤ stt M m' u := by
 rcases h.desc u hu.1 hu.2 with e | e
 ·unfold stt at hi ⊢; rw [e]; exact hi
 ·exact (dpath_from e).2.2
theorem Safe.done {M : ML} {m m' : Mm} (h : Safe M m m') {u : Int} (hu : 0 ≤ u ∧ u < M.L.th) (hi : stt M m u = 5) : stt M m' u = 5 := by
 unfold stt
 rw [h.idle hu (.inr hi)]
 exact hi
structure Own (M : ML) (me : Int) (m : Mm) (d : DoS) : Prop where
 idle : d.at_ ≤ 4 ∨ 7 ≤ d.at_ → Idle M m me
 done : d.at_ = 6 → stt M m me = 5
 owns : d.at_ = 5 → 1 ≤ stt M m me ∧ ld M m (M.L.task me) = d.task.num ∧ d.help.u = me ∧ d.help.no = ld M m (M.L.ticket me)
 bits : d.at_ = 4 → d.ann.bits = d.task.num
 an1 : d.at_ = 4 → 1 ≤ d.ann.at_ → ld M m (M.L.task me) = d.task.num
 an3 : d.at_ = 4 → 3 ≤ d.ann.at_ → ld M m (M.L.ticket me) = d.ann.no
 an4 : d.at_ = 4 → d.ann.at_ = 4 → d.ann.found = ld M m (M.L.desc me)
theorem Own.safe {M : ML} {me : Int} {m m' : Mm} {d : DoS} (h : Own M me m d) (hs : Safe M m m') (hu : 0 ≤ me ∧ me < M.L.th) : Own M me m' d := by
 have ht := hs.task me hu.1 hu.2
 have hk := hs.tick me hu.1 hu.2
 refine ⟨fun e => ?_, fun e => hs.done hu (h.done e), fun e => ?_, h.bits, fun e e1 => by rw [ht]; exact h.an1 e e1, fun e e1 => by rw [hk]; exact h.an3 e e1, fun e e1 => ?_⟩
 ·have hi := h.idle e
  unfold Idle stt at hi ⊢
  rw [hs.idle hu (h.idle e)]; exact hi
 ·have ho := h.owns e
  exact ⟨hs.stay hu ho.1, by rw [ht]; exact ho.2.1, ho.2.2.1, by rw [hk]; exact ho.2.2.2⟩
 ·rw [hs.idle hu (h.idle (.inl (by omega)))]; exact h.an4 e e1
theorem Own.rel {M : ML} {me u : Int} {m m' : Mm} {d : DoS} (h : Own M me m d) (hs : Rel M u m m') (hu : 0 ≤ me ∧ me < M.L.th) (hne : me ≠ u) (_ : MOk M m) : Own M me m' d := by
 have ht := hs.task me hu.1 hu.2 hne
 have hk := hs.tick me hu.1 hu.2 hne
 have hd : ld M m' (M.L.desc me) = ld M m (M.L.desc me) ∨ DPath M.L (ld M m (M.L.desc me)) (ld M m' (M.L.desc me)) := by
  rcases hs.desc me hu.1 hu.2 with e | e | e
  ·exact .inl e
  ·exact .inr e
  ·exact absurd e.1 hne
 have hidle : Idle M m me → ld M m' (M.L.desc me) = ld M m (M.L.desc me) := fun hi => by
  rcases hd with e | e
  ·exact e
  ·have := dpath_from e
   unfold Idle stt at hi
   omega
 refine ⟨fun e => ?_, fun e => ?_, fun e => ?_, h.bits, fun e e1 => by rw [ht]; exact h.an1 e e1, fun e e1 => by rw [hk]; exact h.an3 e e1, fun e e1 => ?_⟩
 ·have hi := h.idle e
  unfold Idle stt at hi ⊢
  rw [hidle (h.idle e)]; exact hi
 ·have h5 := h.done e
  unfold stt
  rw [hidle (.inr h5)]; exact h5
 ·have ho := h.owns e
  refine ⟨?_, by rw [ht]; exact ho.2.1, ho.2.2.1, by rw [hk]; exact ho.2.2.2⟩
  rcases hd with e2 | e2
  ·have h1 := ho.1
   unfold stt at h1 ⊢
   rw [e2]; exact h1
  ·exact (dpath_from e2).2.2
 ·rw [hidle (h.idle (.inl (by omega)))]; exact h.an4 e e1
structure HdOk (L : Ly) (h : HdS) : Prop where
 at_ : 0 ≤ h.at_ ∧ h.at_ < L.th
 u : -1 ≤ h.u ∧ h.u < L.th
theorem hd_step {M : ML} {m : Mm} {h : HdS} (hh : HdOk M.L h) : (stepHd M m h).2.1 = m ∧ ((stepHd M m h).1 = false → HdOk M.L (stepHd M m h).2.2) ∧ (-1 ≤ (stepHd M m h).2.2.u ∧ (stepHd M m h).2.2.u < M.L.th) := by
 obtain ⟨h1, h2⟩ := hh
 unfold stepHd
 split
 ·split
  ·exact ⟨rfl, fun _ => ⟨h1, h2⟩, h2⟩
  ·refine ⟨rfl, fun e => ⟨?_, h2⟩, h2⟩
   simp only [decide_eq_false_iff_not] at e
   simp only; omega
 ·refine ⟨rfl, fun e => ⟨?_, ?_⟩, ?_⟩
  ·simp only [decide_eq_false_iff_not] at e
   simp only; omega
  ·simp only; split <;> omega
  ·simp only; split <;> omega
structure DoOk (L : Ly) (me : Int) (t : StS) (d : DoS) (N : Int) : Prop where
 may : d.task.may = true
 lim : 0 ≤ d.limit ∧ d.limit ≤ 1000
 at_ : 0 ≤ d.at_ ∧ d.at_ ≤ 9
 head : d.at_ = 0 → HdOk L d.head
 help : d.at_ = 1 ∨ d.at_ = 5 → HpOk L me t d.help N
 ens : d.at_ = 2 → EnOk L d.ens N
 fast : d.at_ = 3 → FsOk L me t d.fast N
 ann : d.at_ = 4 → (0 ≤ d.ann.at_ ∧ d.ann.at_ ≤ 4) ∧ (0 ≤ d.ann.no ∧ d.ann.no < 18446744073709551616)
 find : d.at_ = 7 → (FiOk L me d.find N ∧ FiLive L d.find) ∧ (t.ret.length : Int) + d.find.unl.length ≤ N
 drop : d.at_ = 8 → d.drop.thread = me ∧ (0 ≤ d.drop.at_ ∧ d.drop.at_ ≤ 1)
 sweep : d.at_ = 9 → SwOk L d.sweep N
theorem DoOk.fine {M : ML} {me : Int} {m : Mm} {t : StS} {d : DoS} {N : Int} (hL : M.L.Ok) (hm : MOk M m) (hu : 0 ≤ me ∧ me < M.L.th) (ht : StOk M.L t N) (h : DoOk M.L me t d N) (hN0 : 0 ≤ N) (hN : N ≤ 90000) : d.Fine M m t := by
 have hth := hL.th
 refine ⟨h.may, h.lim, by have := ht.len; omega, h.at_, fun e => (h.head e).at_.2, fun e => (h.help e).fine hL hm hu hN0 hN, fun e => (h.ens e).live, fun e => (h.fast e).fine hL hm hu hN0 hN, fun e => (h.ann e).1, fun e => by have := (h.drop e).2; omega, fun e => ?_⟩
 have hf := (h.find e).1
 have hs := fi_step hL hm hu hN0 hf.1 hf.2
 exact ⟨hf.1.fine hL (by omega) (by omega), hf.1.at_, hs.2.ok.fine hL (by omega) (by omega)⟩
theorem num_ok {t : Tk3} (h : t.may = true) : tkOk t.num = true ∧ (0 ≤ t.num ∧ t.num < 18446744073709551616) := by
 obtain ⟨h1, h2, h3⟩ := Tk3.rng h
 unfold tkOk
 rw [tkOf_num h, h]
 have : t.num / 65536 = 0 := by unfold Tk3.num; omega
 refine ⟨by simp [this], ?_⟩
 unfold Tk3.num; omega
end Go.Proofs.YtbcnnhlpilmmbaaGreat
