/- Texts that are wanted for PTopPaths.
   Conditions: none. -/
import Derived.Test.YtbcnnhlpilmmbaaGreatJPTopPaths12
set_option maxRecDepth 100000
set_option maxHeartbeats 6400000
namespace Go.Proofs.YtbcnnhlpilmmbaaGreat
open Go Go.RowKit
structure PlOk (L : Ly) (p : PlS) : Prop where
 old : p.now = false → (0 ≤ p.old ∧ p.old < 18446744073709551616) ∧ (getW p.old).next ≤ L.nd
 addr : p.now = false → 1 ≤ p.addr ∧ p.addr ≤ L.nd + 4
 next : p.now = false → 0 ≤ p.next ∧ p.next ≤ L.nd
 val : 0 ≤ p.res.val ∧ p.res.val < 1024
 pops : 0 ≤ p.pops ∧ p.pops ≤ L.nd
 code : p.res.code = 0 ∨ p.res.code = 4
theorem told_ok {L : Ly} (hL : L.Ok) (ok : Bool) : PlOk L (told ok) := by
 have := hL.nd
 exact ⟨fun h => by simp [told] at h, fun h => by simp [told] at h, fun h => by simp [told] at h, by simp [told], by simp only [told]; omega, .inl rfl⟩
theorem link_ok {L : Ly} (hL : L.Ok) {p : Pos} (hp : PosOk L p) {n : Int} (hn : 0 ≤ n ∧ n ≤ L.nd) : PlOk L (p.link n) := by
 have := hL.nd
 exact ⟨fun _ => hp.pw, fun _ => hp.pred, fun _ => hn, by simp [Pos.link], by simp only [Pos.link]; omega, .inl rfl⟩
theorem mark_ok {L : Ly} (hL : L.Ok) {p : Pos} (hp : PosOk L p) (hc : p.curr ≠ 0) : PlOk L p.mark := by
 have := hL.nd
 have h1 := hp.curr
 have h2 := (getW_fit p.cw).next
 exact ⟨fun _ => hp.cw, fun _ => by simp only [Pos.mark]; omega, fun _ => ⟨h2.1, hp.cw.2⟩, by simp [Pos.mark], by simp only [Pos.mark]; omega, .inl rfl⟩
theorem take_ok {L : Ly} (hL : L.Ok) {p : Pos} (hp : PosOk L p) (t : Tk3) : PlOk L (p.take t) := by
 have hk := (getW_fit p.cw).key
 have h2 := (getW_fit p.cw).next
 have h1 := hp.curr
 unfold Pos.take
 split
 ·exact told_ok hL false
 ·rename_i hc
  split
  ·have h3 := link_ok hL hp (n := (getW p.cw).next) ⟨h2.1, hp.cw.2⟩
   exact ⟨h3.old, h3.addr, h3.next, hk, h1, .inl rfl⟩
  ·have h3 := mark_ok hL hp hc
   exact ⟨h3.old, h3.addr, h3.next, hk, h3.pops, .inl rfl⟩
theorem plan_ok {L : Ly} (hL : L.Ok) {p : Pos} (hp : PosOk L p) (t : Tk3) {n : Int} (hn : 0 ≤ n ∧ n ≤ L.nd) : PlOk L (planFor t p n) := by
 unfold planFor
 split
 ·exact link_ok hL hp hn
 ·split
  ·rename_i h
   refine mark_ok hL hp ?_
   have := h.2
   unfold Pos.found at this
   simp only [Bool.and_eq_true, decide_eq_true_eq] at this
   exact this.1
  ·split
   ·exact take_ok hL hp t
   ·exact told_ok hL _
theorem plan_word {L : Ly} (hL : L.Ok) {p : PlS} (h : PlOk L p) : (getW p.word).next ≤ L.nd ∧ (0 ≤ p.word ∧ p.word < 18446744073709551616) := by
 have hn := hL.nd
 cases hw : p.now with
 | true =>
  unfold PlS.word
  rw [if_pos hw]
  exact ⟨zero_next L hL, by omega⟩
 | false =>
  have h1 := h.next hw
  unfold PlS.word
  rw [if_neg (by rw [hw]; decide)]
  refine ⟨?_, putW_rng64 _⟩
  rw [getW_putW (Wd.free_fit (Wd.claimed_fit (getW_fit _) (by omega) (by omega)))]
  exact h1.2
theorem plan_desc {L : Ly} (hL : L.Ok) {p : PlS} (h : PlOk L p) (hw : p.now = false) {x : Int} (hs : (getD' x).status = 1) : DPath L x (p.desc (getD' x).att) ∧ (0 ≤ p.desc (getD' x).att ∧ p.desc (getD' x).att < 18446744073709551616) ∧ getD' (p.desc (getD' x).att) = ⟨(getD' x).att, p.addr, (getW p.old).ver, p.next, p.mark, 2, p.res.val⟩ := by
 have hn := hL.nd
 have h1 := h.next hw
 have h2 := h.addr hw
 have h3 := (getW_fit p.old).ver
 have h4 := (getD_fit x).att
 have e : getD' (p.desc (getD' x).att) = ⟨(getD' x).att, p.addr, (getW p.old).ver, p.next, p.mark, 2, p.res.val⟩ := by
  unfold PlS.desc
  rw [if_neg (by rw [hw]; decide)]
  exact getD_putD ⟨h4, by simp only; omega, h3, by simp only; omega, by simp, h.val⟩
 refine ⟨⟨⟨by rw [e]; simp, fun _ _ => by rw [e]; exact ⟨h2, h1.2⟩⟩, .inl ⟨hs, by rw [e], .inl (by rw [e])⟩⟩, ?_, e⟩
 unfold PlS.desc
 rw [if_neg (by rw [hw]; decide)]
 exact putD_rng64 _
structure ExOk (L : Ly) (x : ExS) : Prop where
 u : 0 ≤ x.u ∧ x.u < L.th
 at_ : 0 ≤ x.at_ ∧ x.at_ ≤ 9
 val : 1 ≤ x.at_ → DVal L x.found
 s2 : 1 ≤ x.at_ → x.at_ ≤ 4 → (getD' x.found).status = 2
 s3 : 5 ≤ x.at_ → x.at_ ≤ 7 → (getD' x.found).status = 3
 s4 : 8 ≤ x.at_ → (getD' x.found).status = 4
 gives : x.at_ = 9 → 1 ≤ (getD' x.found).next ∧ (getD' x.found).next ≤ L.nd
 word : x.at_ = 2 ∨ x.at_ = 6 → (getW x.word).next ≤ L.nd
theorem ex_new {L : Ly} {u : Int} (hu : 0 ≤ u ∧ u < L.th) (t : Tk3) (att : Int) : ExOk L (.new u t att) ∧ (0 ≤ (ExS.new u t att).popped ∧ (ExS.new u t att).popped ≤ 0) :=
 ⟨⟨hu, by simp [ExS.new], fun h => by simp [ExS.new] at h, fun h => by simp [ExS.new] at h, fun h => by simp [ExS.new] at h, fun h => by simp [ExS.new] at h, fun h => by simp [ExS.new] at h, fun h => by simp [ExS.new] at h⟩, by simp [ExS.new]⟩
theorem claimed_next {x : Int} {u n : Int} {k : Bool} (hu : 0 ≤ u ∧ u < 31) (hn : 0 ≤ n ∧ n < 512) : (getW (putW ((getW x).claimed u n k))).next = n := by rw [getW_putW (Wd.claimed_fit (getW_fit x) hu hn)]; rfl
theorem ex_step {M : ML} {m : Mm} {x : ExS} (hL : M.L.Ok) (hm : MOk M m) (h : ExOk M.L x) (hp : 0 ≤ x.popped ∧ x.popped ≤ M.L.nd) :
  Safe M m (stepEx M m x).2.1 ∧ ((stepEx M m x).1 = false → ExOk M.L (stepEx M m x).2.2) ∧ (0 ≤ (stepEx M m x).2.2.popped ∧ (stepEx M m x).2.2.popped ≤ M.L.nd) := by
 have hn := hL.nd
 have hth := hL.th
 obtain ⟨hu, hat, hv, h2, h3, h4, hg, hw⟩ := h
 have hf := getD_fit x.found
 have hwf := getW_fit x.word
 unfold stepEx
 simp only
 split
 ·
  have hd := hm.desc x.u hu.1 hu.2
  refine ⟨.refl hm, fun e => ?_, ?_⟩
  ·unfold ExS.load at e ⊢
   split at e
   ·simp at e
   ·rename_i c1
    rw [if_neg c1]
    split at e
    ·rename_i c2
     rw [if_pos c2]
     exact ⟨hu, by simp, fun _ => hd, fun _ _ => c2, fun a => by simp at a, fun a => by simp at a, fun a => by simp at a, fun a => by simp at a⟩
    ·rename_i c2
     rw [if_neg c2]
     split at e
     ·rename_i c3
      rw [if_pos c3]
      exact ⟨hu, by simp, fun _ => hd, fun _ b => by simp at b, fun _ _ => c3, fun a => by simp at a, fun a => by simp at a, fun a => by simp at a⟩
     ·rename_i c3
      rw [if_neg c3]
      split at e
      ·rename_i c4
       rw [if_pos c4]
       exact ⟨hu, by simp, fun _ => hd, fun _ b => by simp at b, fun _ b => by simp at b, fun _ => c4, fun a => by simp at a, fun a => by simp at a⟩
      ·simp at e
  ·unfold ExS.load
   split
   ·exact hp
   ·split
    ·exact hp
    ·split
     ·exact hp
     ·split <;> exact hp
 ·split
  ·
   rename_i c0 c1
   have hd := hv (by omega)
   have hs := h2 (by omega) (by omega)
   have ha := (hd.at_ (by omega) (by omega)).1
   refine ⟨.refl hm, fun _ => ?_, hp⟩
   have hwn := hm.word _ ha.1 ha.2
   unfold ExS.look
   refine ⟨hu, ?_, fun _ => hd, fun _ _ => hs, fun a => ?_, fun a => ?_, fun a => ?_, fun _ => hwn⟩
   ·simp only; split
    ·omega
    ·split <;> omega
   ·simp only at a; split at a
    ·omega
    ·split at a <;> omega
   ·simp only at a; split at a
    ·omega
    ·split at a <;> omega
   ·simp only at a; split at a
    ·omega
    ·split at a <;> omega
  ·split
   ·
    rename_i c0 c1 c2
    have hd := hv (by omega)
    have hs := h2 (by omega) (by omega)
    have ha := hd.at_ (by omega) (by omega)
    have hwn := hw (.inl c2)
    refine ⟨safe_casW hm (putW_rng64 _) hL (by omega) (by rw [claimed_next (by omega) hf.next]; exact ha.2), fun e => by simp at e, ?_⟩
    split
    ·have := hwf.next
     exact ⟨this.1, hwn⟩
    ·exact hp
   ·split
    ·rename_i c0 c1 c2 c3
     have hd := hv (by omega)
     have hs := h2 (by omega) (by omega)
     exact ⟨safe_casD hm (putD_rng64 _) hL hu (dpath_with hd hs 3 (.inl rfl)), fun e => by simp at e, hp⟩
    ·split
     ·rename_i c0 c1 c2 c3 c4
      have hd := hv (by omega)
      have hs := h2 (by omega) (by omega)
      exact ⟨safe_casD hm (putD_rng64 _) hL hu (dpath_with hd hs 4 (.inr rfl)), fun e => by simp at e, hp⟩
     ·split
      ·rename_i c0 c1 c2 c3 c4 c5
       have hd := hv (by omega)
       have hs := h3 (by omega) (by omega)
       have ha := (hd.at_ (by omega) (by omega)).1
       have hwn := hm.word _ ha.1 ha.2
       refine ⟨.refl hm, fun _ => ?_, hp⟩
       unfold ExS.look
       refine ⟨hu, ?_, fun _ => hd, fun a b => ?_, fun _ _ => hs, fun a => ?_, fun a => ?_, fun _ => hwn⟩
       ·simp only; split
        ·omega
        ·split <;> omega
       ·simp only at a b; split at b
        ·omega
        ·split at b <;> omega
       ·simp only at a; split at a
        ·omega
        ·split at a <;> omega
       ·simp only at a; split at a
        ·omega
        ·split at a <;> omega
      ·split
       ·rename_i c0 c1 c2 c3 c4 c5 c6
        have hd := hv (by omega)
        have hs := h3 (by omega) (by omega)
        have ha := (hd.at_ (by omega) (by omega)).1
        exact ⟨safe_casW hm (putW_rng64 _) hL (by omega) (by rw [free_next]; exact hw (.inr c6)), fun _ => ⟨hu, by simp, fun _ => hd, fun a b => by simp at b, fun _ _ => hs, fun a => by simp at a, fun a => by simp at a, fun a => by simp at a⟩, hp⟩
       ·split
        ·rename_i c0 c1 c2 c3 c4 c5 c6 c7
         exact ⟨safe_casD hm (putD_rng64 _) hL hu (dpath_ends (h3 (by omega) (by omega))), fun e => by simp at e, hp⟩
        ·split
         ·rename_i c0 c1 c2 c3 c4 c5 c6 c7 c8
          have hs := h4 (by omega)
          refine ⟨safe_casD hm (putD_rng64 _) hL hu (dpath_next hs), fun e => ?_, hp⟩
          simp only [Bool.or_eq_false_iff, Bool.not_eq_false'] at e
          have hnode := e.2.2
          unfold Ly.node at hnode
          simp only [Bool.and_eq_true, decide_eq_true_eq] at hnode
          exact ⟨hu, by simp, fun _ => hv (by omega), fun a b => by simp at b, fun a b => by simp at b, fun _ => hs, fun _ => hnode, fun a => by simp at a⟩
         ·have c9 : x.at_ = 9 := by omega
          have := hg c9
          exact ⟨safe_add hm hL this, fun e => by simp at e, hp⟩
theorem fast_sought {w : World} {C : Nat → Nat} {c s sg b : Nat} {L : Ly} {me : Int} {t : StS} {f : FsS} (hL : L.Ok) (hcs : c ≠ s) (hst : StAt w C s sg L me t) (h : FsAt w C c sg b L f) (h0 : f.at_ = 0) (hok : f.Ok 400000) (hfo : f.find.Ok 100000) (hle : t.ret.length ≤ 99000) : Calls Tryz.prog 114 #[.pointer (some ⟨b, 0, none⟩)] w (OW C (Kcs c s) LFd (.bool (f.sought t).1) (fun w' C' => StAt w' C' s sg L me (f.sought t).2.1 ∧ FsAt w' C' c sg b L (f.sought t).2.2) w) := by
 cases ho : f.over f.find.tries with
 | true => exact fast_sought_over hL hcs hst h h0 hok hfo hle ho
 | false =>
  cases hn0 : (planFor f.task f.find.pos t.spare).now with
  | true => exact fast_sought_now hL hcs hst h h0 hok hfo hle ho hn0
  | false =>
   cases hcl : (planFor f.task f.find.pos t.spare).claimed with
   | true => exact fast_sought_cl hL hcs hst h h0 hok hfo hle ho hn0 hcl
   | false =>
    cases hlk : f.task.links with
    | true => exact fast_sought_lk hL hcs hst h h0 hok hfo hle ho hn0 hcl hlk
    | false => exact fast_sought_no hL hcs hst h h0 hok hfo hle ho hn0 hcl hlk
def LFs : List (Option TypeId) := [some 187, some 137, some 3, some 157, some 230, some 236, some 75, some 34]
theorem LM_LFs : ∀ x, x ∈ LM → x ∈ LFs := by decide
theorem LFi_LFs : ∀ x, x ∈ LFi → x ∈ LFs := by decide
theorem LCl_LFs : ∀ x, x ∈ LCl → x ∈ LFs := by decide
theorem LPr_LFs : ∀ x, x ∈ LPr → x ∈ LFs := by decide
theorem LFd_LFs : ∀ x, x ∈ LFd → x ∈ LFs := by decide
theorem Fast_LFs : ∀ x, x ∈ [some 187] → x ∈ LFs := by decide
theorem fast_Step_odd {w : World} {C : Nat → Nat} {c s sg b : Nat} {M : ML} {m : Mm} {me : Int} {t : StS} {f : FsS} (_ : c ≠ s) (_ : s ≠ 1) (hm : MemAt w C M m) (hst : StAt w C s sg M.L me t) (h : FsAt w C c sg b M.L f) (hok : f.Ok 400000) (_ : t.ret.length ≤ 98000) (h0 : f.at_ = 0) (ho : (f.task.links && decide (t.spare = 0)) = true) : Calls Tryz.prog 75 #[.pointer (some ⟨b, 0, none⟩), .pointer (some ⟨M.b, 0, none⟩)] w (MW C c s LFs M (stepFs M me m t f).1 (stepFs M me m t f).2.1 (fun w' C' => StAt w' C' s sg M.L me (stepFs M me m t f).2.2.1 ∧ FsAt w' C' c sg b M.L (stepFs M me m t f).2.2.2) w) := by
 obtain ⟨pf, pc, pp, sb, h1, h2, h3⟩ := h.ex
 obtain ⟨bf, rfl, hfi⟩ := h1 h0
 have HOD := fun W C' (k1 : StAt W C' s sg M.L me t) (k2 : FsC W C' c sg b (.pointer (some ⟨bf, 0, none⟩)) pc pp f) => fast_odd k1 k2 hok.may
 rw [ho] at HOD
 unfold FsC at sb
 obtain ⟨⟨rc, ro, rv⟩, failed, tries, ⟨sh, kind, key⟩, most, at_, ⟨g0, ⟨g1, g2, g3⟩, g4, g5, g6, g7, g8⟩, find, cl, prep⟩ := f
 simp only at sb h0 hfi HOD ho
 subst h0
 have HST : Hid (stepFs M me m t (⟨⟨rc, ro, rv⟩, failed, tries, ⟨sh, kind, key⟩, most, 0, ⟨g0, ⟨g1, g2, g3⟩, g4, g5, g6, g7, g8⟩, find, cl, prep⟩ : FsS) = (true, m, t, (⟨⟨rc, ro, rv⟩, true, tries, ⟨sh, kind, key⟩, most, 0, ⟨g0, ⟨g1, g2, g3⟩, g4, g5, g6, g7, g8⟩, find, cl, prep⟩ : FsS))) := Lib.hid (by unfold stepFs; simp only; rw [if_pos trivial, if_pos ho])
 clear ho h h1 h2 h3
 go_enter Tryz.func75, Tryz.ntmps75
 have fr := Fr.refl C (Kcs c s) LFs w
 have ag := Agr.refl w.heap.size C
 go_wp2_with fail
 refine (HOD _ _ hst sb).mono ?_; rintro e w1 ⟨rfl, hb1⟩
 revert hfi; revert hst; revert hm; revert sb; revert fr; refine mvb hb1 ?_; intro fr sb hm hst hfi
 go_wp2_with fail
 refine (mem_Load hm 0).mono ?_; clear hm; rintro e w2 ⟨rfl, hm, hf⟩
 revert fr sb hst hfi; refine mvf hf (Kcs_mem c s) LM_LFs ag ?_; clear hf; intro fr sb hst hfi
 have z1 := sb
 revert hm hst hfi; revert fr; refine st1 sb 4 (.bool true) (Kcs_0 c s) ag ?_; clear sb; rintro w3 e1 fr sb hm hst hfi
 simp only [sx] at sb
 go_wp2_with fail
 clear z1 e1
 go_ret
 exact ⟨by rw [HST.out]; rfl, ⟨_, ag, by rw [HST.out]; exact hm, by rw [HST.out]; exact ⟨hst, ⟨_, _, _, sb, fun _ => ⟨bf, rfl, hfi⟩, fun h => by simp at h, fun h => by simp at h⟩⟩⟩, fr⟩
theorem fast_Step_find {w : World} {C : Nat → Nat} {c s sg b : Nat} {M : ML} {m : Mm} {me : Int} {t : StS} {f : FsS} (hcs : c ≠ s) (hs1 : s ≠ 1) (hm : MemAt w C M m) (hst : StAt w C s sg M.L me t) (h : FsAt w C c sg b M.L f) (hok : f.Ok 400000) (hle : t.ret.length ≤ 98000) (h0 : f.at_ = 0) (ho : (f.task.links && decide (t.spare = 0)) = false) (hfo : f.find.Ok 100000) (hfa : 0 ≤ f.find.at_ ∧ f.find.at_ ≤ 6) (hfo2 : (stepFi M m f.find).2.2.Ok 100000) : Calls Tryz.prog 75 #[.pointer (some ⟨b, 0, none⟩), .pointer (some ⟨M.b, 0, none⟩)] w (MW C c s LFs M (stepFs M me m t f).1 (stepFs M me m t f).2.1 (fun w' C' => StAt w' C' s sg M.L me (stepFs M me m t f).2.2.1 ∧ FsAt w' C' c sg b M.L (stepFs M me m t f).2.2.2) w) := by
 obtain ⟨pf, pc, pp, sb, h1, h2, h3⟩ := h.ex
 obtain ⟨bf, rfl, hfi⟩ := h1 h0
 have HOD := fun W C' (k1 : StAt W C' s sg M.L me t) (k2 : FsC W C' c sg b (.pointer (some ⟨bf, 0, none⟩)) pc pp f) => fast_odd k1 k2 hok.may
 have hKs : ¬ Kc c s := fun e => e.elim (fun e => hcs e.symm) hs1
 have HFI := fun W C' (k1 : MemAt W C' M m) (k2 : FiAt W C' c bf M.L f.find) => find_Step k1 k2 hfo hfa
 rw [ho] at HOD
 obtain ⟨r, hr⟩ : ∃ r, stepFi M m f.find = r := ⟨_, rfl⟩
 simp only [hr] at HFI hfo2
 obtain ⟨r1, m', fi2⟩ := r
 have HSO := fun W C' (k1 : StAt W C' s sg M.L me t) (k2 : FsAt W C' c sg b M.L { f with find := fi2 }) => fast_sought hm.ok hcs k1 k2 h0 ⟨hok.may, hok.tries, hok.most⟩ hfo2 (by omega)
 obtain ⟨so, hso⟩ : ∃ so, FsS.sought t { f with find := fi2 } = so := ⟨_, rfl⟩
 simp only [hso] at HSO
 have HST : Hid (stepFs M me m t f = if r1 then (so.1, m', so.2.1, so.2.2) else (false, m', t, { f with find := fi2 })) := Lib.hid (by unfold stepFs; simp only; rw [if_pos h0, if_neg (by rw [ho]; decide)]; simp only [hr, hso])
 unfold FsC at sb
 clear hso hr
 obtain ⟨⟨rc, ro, rv⟩, failed, tries, ⟨sh, kind, key⟩, most, at_, ⟨g0, ⟨g1, g2, g3⟩, g4, g5, g6, g7, g8⟩, find, cl, prep⟩ := f
 simp only at sb h0 hfi HOD ho HSO HST HFI
 subst h0
 clear ho h h1 h2 h3 hok
 go_enter Tryz.func75, Tryz.ntmps75
 have fr := Fr.refl C (Kcs c s) LFs w
 have ag := Agr.refl w.heap.size C
 go_wp2_with fail
 refine (HOD _ _ hst sb).mono ?_; rintro e w1 ⟨rfl, hb1⟩
 revert hfi; revert hst; revert hm; revert sb; revert fr; refine mvb hb1 ?_; intro fr sb hm hst hfi
 go_wp2_with fail
 refine (HFI _ _ hm hfi).mono ?_; clear hm hfi; rintro e w2 ⟨rfl, ⟨C2, aG, hm, hfi⟩, hf⟩
 replace hst := hst.mv hf aG (.inl hKs)
 revert ag fr sb; refine mvm hf aG (Kcs_c c s) LFi_LFs ?_; clear hf aG; intro ag fr sb
 try dsimp only at hm hfi
 cases r1
 ·skip
  go_wp2_with fail
  go_ret
  exact ⟨by rw [HST.out]; rfl, ⟨_, ag, by rw [HST.out]; exact hm, by rw [HST.out]; exact ⟨hst, ⟨_, _, _, sb, fun _ => ⟨bf, rfl, hfi⟩, fun h => by simp at h, fun h => by simp at h⟩⟩⟩, fr⟩
 ·skip
  go_wp2_with fail
  refine (HSO _ _ hst ⟨_, _, _, sb, fun _ => ⟨bf, rfl, hfi⟩, fun h => by simp at h, fun h => by simp at h⟩).mono ?_
  rintro e w9 ⟨rfl, ⟨C9, ag9, hst9, own9⟩, hf9⟩
  have ag' := ag.trans ag9 fr.size
  replace fr := fr.trans (hf9.mono (fun _ h => h) LFd_LFs) ag
  replace hm := hm.mv hf9 ag9 (.inr ⟨by decide, by decide⟩)
  go_wp2_with fail
  go_ret
  exact ⟨by rw [HST.out]; rfl, ⟨_, ag', by rw [HST.out]; exact hm, by rw [HST.out]; exact ⟨hst9, own9⟩⟩, fr⟩
theorem fast_Step1 {w : World} {C : Nat → Nat} {c s sg b : Nat} {M : ML} {m : Mm} {me : Int} {t : StS} {f : FsS} (_ : c ≠ s) (_ : s ≠ 1) (hm : MemAt w C M m) (hst : StAt w C s sg M.L me t) (h : FsAt w C c sg b M.L f) (hok : f.Ok 400000) (_ : t.ret.length ≤ 98000) (h0 : f.at_ = 1) : Calls Tryz.prog 75 #[.pointer (some ⟨b, 0, none⟩), .pointer (some ⟨M.b, 0, none⟩)] w (MW C c s LFs M (stepFs M me m t f).1 (stepFs M me m t f).2.1 (fun w' C' => StAt w' C' s sg M.L me (stepFs M me m t f).2.2.1 ∧ FsAt w' C' c sg b M.L (stepFs M me m t f).2.2.2) w) := by
 obtain ⟨pf, pc, pp, sb, h1, h2, h3⟩ := h.ex
 obtain ⟨bc, rfl, hcl⟩ := h2 h0
 have HCL := fun W C' (k1 : MemAt W C' M m) (k2 : ClAt W C' c bc M.L f.cl) => clear_Step k1 k2
 obtain ⟨r, hr⟩ : ∃ r, stepCl M m f.cl = r := ⟨_, rfl⟩
 simp only [hr] at HCL
 obtain ⟨r1, m', cl2⟩ := r
 have HAG := fun W C' (k1 : StAt W C' s sg M.L me t) (k2 : FsAt W C' c sg b M.L { f with cl := cl2 }) => fast_again hm.ok k1 k2 ⟨hok.may, ⟨hok.tries.1, by have := hok.tries.2; simp only; omega⟩, hok.most⟩
 obtain ⟨so, hso⟩ : ∃ so, FsS.again M.L me { f with cl := cl2 } = so := ⟨_, rfl⟩
 simp only [hso] at HAG
 have HST : Hid (stepFs M me m t f = if r1 then (so.1, m', t, so.2) else (false, m', t, { f with cl := cl2 })) := Lib.hid (by unfold stepFs; simp only; rw [if_neg (by rw [h0]; decide), if_pos h0]; simp only [hr, hso])
 unfold FsC at sb
 clear hso hr
 obtain ⟨⟨rc, ro, rv⟩, failed, tries, ⟨sh, kind, key⟩, most, at_, ⟨g0, ⟨g1, g2, g3⟩, g4, g5, g6, g7, g8⟩, find, cl, prep⟩ := f
 simp only at sb h0 hcl HAG HST HCL
 subst h0
 clear h h1 h2 h3 hok
 go_enter Tryz.func75, Tryz.ntmps75
 have fr := Fr.refl C (Kcs c s) LFs w
 have ag := Agr.refl w.heap.size C
 go_wp2_with fail
 refine (HCL _ _ hm hcl).mono ?_; clear hm hcl; rintro e w1 ⟨rfl, hm, hcl, hf⟩
 revert hst; revert sb; revert fr; refine mvf hf (Kcs_c c s) LCl_LFs ag ?_; clear hf; intro fr sb hst
 try dsimp only at hm hcl
 cases r1
 ·skip
  go_wp2_with fail
  go_ret
  exact ⟨by rw [HST.out]; rfl, ⟨_, ag, by rw [HST.out]; exact hm, by rw [HST.out]; exact ⟨hst, ⟨_, _, _, sb, fun h => by simp at h, fun _ => ⟨bc, rfl, hcl⟩, fun h => by simp at h⟩⟩⟩, fr⟩
 ·skip
  go_wp2_with fail
  refine (HAG _ _ hst ⟨_, _, _, sb, fun h => by simp at h, fun _ => ⟨bc, rfl, hcl⟩, fun h => by simp at h⟩).mono ?_
  rintro e w9 ⟨rfl, ⟨C9, ag9, own9⟩, hf9⟩
  have ag' := ag.trans ag9 fr.size
  replace fr := fr.trans (hf9.mono (Kcs_0 c s) Fast_LFs) ag
  replace hm := hm.mv hf9 ag9 (.inr ⟨by decide, by decide⟩)
  replace hst := hst.mv hf9 ag9 (.inr (by decide))
  go_wp2_with fail
  go_ret
  exact ⟨by rw [HST.out]; rfl, ⟨_, ag', by rw [HST.out]; exact hm, by rw [HST.out]; exact ⟨hst, own9⟩⟩, fr⟩
theorem fast_Step2 {w : World} {C : Nat → Nat} {c s sg b : Nat} {M : ML} {m : Mm} {me : Int} {t : StS} {f : FsS} (_ : c ≠ s) (_ : s ≠ 1) (hm : MemAt w C M m) (hst : StAt w C s sg M.L me t) (h : FsAt w C c sg b M.L f) (hok : f.Ok 400000) (_ : t.ret.length ≤ 98000) (h0 : f.at_ = 2) (hk : 0 ≤ f.prep.key) : Calls Tryz.prog 75 #[.pointer (some ⟨b, 0, none⟩), .pointer (some ⟨M.b, 0, none⟩)] w (MW C c s LFs M (stepFs M me m t f).1 (stepFs M me m t f).2.1 (fun w' C' => StAt w' C' s sg M.L me (stepFs M me m t f).2.2.1 ∧ FsAt w' C' c sg b M.L (stepFs M me m t f).2.2.2) w) := by
 obtain ⟨pf, pc, pp, sb, h1, h2, h3⟩ := h.ex
 obtain ⟨bp, rfl, hpr⟩ := h3 h0
 have HPR := fun W C' (k1 : MemAt W C' M m) (k2 : StAt W C' s sg M.L me t) (k3 : PrAt W C' c sg bp f.prep) => prepare_Step k1 k2 k3 hk
 obtain ⟨r, hr⟩ : ∃ r, stepPr M m t f.prep = r := ⟨_, rfl⟩
 simp only [hr] at HPR
 obtain ⟨r1, m', pr2⟩ := r
 have HST : Hid (stepFs M me m t f = (false, m', t, { f with prep := pr2, at_ := if r1 then 3 else 2 })) := Lib.hid (by unfold stepFs; simp only; rw [if_neg (by rw [h0]; decide), if_neg (by rw [h0]; decide), if_pos h0]; simp only [hr])
 unfold FsC at sb
 clear hr
 obtain ⟨⟨rc, ro, rv⟩, failed, tries, ⟨sh, kind, key⟩, most, at_, ⟨g0, ⟨g1, g2, g3⟩, g4, g5, g6, g7, g8⟩, find, cl, prep⟩ := f
 simp only at sb h0 hpr HST HPR
 subst h0
 clear h h1 h2 h3 hok
 go_enter Tryz.func75, Tryz.ntmps75
 have fr := Fr.refl C (Kcs c s) LFs w
 have ag := Agr.refl w.heap.size C
 go_wp2_with fail
 refine (HPR _ _ hm hst hpr).mono ?_; clear hm hpr; rintro e w1 ⟨rfl, hm, hpr, hf⟩
 revert hst; revert sb; revert fr; refine mvf hf (Kcs_c c s) LPr_LFs ag ?_; clear hf; intro fr sb hst
 try dsimp only at hm hpr
 cases r1
 ·skip
  go_wp2_with fail
  go_ret
  exact ⟨by rw [HST.out]; rfl, ⟨_, ag, by rw [HST.out]; exact hm, by rw [HST.out]; exact ⟨hst, ⟨_, _, _, sb, fun h => by simp at h, fun h => by simp at h, fun _ => ⟨bp, rfl, hpr⟩⟩⟩⟩, fr⟩
 ·skip
  have z1 := sb
  revert hpr; revert hst; revert hm; revert fr; refine st1 sb 10 (.int .i64 3) (Kcs_0 c s) ag ?_; clear sb; rintro w2 e1 fr sb hm hst hpr
  simp only [sx] at sb
  go_wp2_with fail
  clear z1 e1
  go_ret
  exact ⟨by rw [HST.out]; rfl, ⟨_, ag, by rw [HST.out]; exact hm, by rw [HST.out]; exact ⟨hst, ⟨_, _, _, sb, fun h => by simp at h, fun h => by simp at h, fun h => by simp at h⟩⟩⟩, fr⟩
theorem fast_Step3_false {w : World} {C : Nat → Nat} {c s sg b : Nat} {M : ML} {m : Mm} {me : Int} {t : StS} {f : FsS} (_ : c ≠ s) (_ : s ≠ 1) (hm : MemAt w C M m) (hst : StAt w C s sg M.L me t) (h : FsAt w C c sg b M.L f) (hok : f.Ok 400000) (_ : t.ret.length ≤ 98000) (h0 : f.at_ = 3) (hold : 0 ≤ f.plan.old ∧ f.plan.old < 18446744073709551616) (hpp : 0 ≤ f.plan.pops ∧ f.plan.pops ≤ 1000) (hq : casOk M m f.plan.addr f.plan.old = false) : Calls Tryz.prog 75 #[.pointer (some ⟨b, 0, none⟩), .pointer (some ⟨M.b, 0, none⟩)] w (MW C c s LFs M (stepFs M me m t f).1 (stepFs M me m t f).2.1 (fun w' C' => StAt w' C' s sg M.L me (stepFs M me m t f).2.2.1 ∧ FsAt w' C' c sg b M.L (stepFs M me m t f).2.2.2) w) := by
 obtain ⟨pf, pc, pp, sb, -, -, -⟩ := h.ex
 have HWD := fun W => plan_Word f.plan hold W
 have hwr : 0 ≤ f.plan.word ∧ f.plan.word < 18446744073709551616 := by
  unfold PlS.word
  split
  ·omega
  ·have := putW_rng ((getW f.plan.old).claimed 0 f.plan.next f.plan.mark).free; omega
 obtain ⟨x, hx⟩ : ∃ x, f.plan.word = x := ⟨_, rfl⟩
 simp only [hx] at HWD hwr
 have HQ := Lib.hid hq
 have HNO := Lib.hid (cas_no (x := x) hq)
 have HAG := fun W C' (k1 : StAt W C' s sg M.L me t) (k2 : FsAt W C' c sg b M.L f) => fast_again hm.ok k1 k2 ⟨hok.may, ⟨hok.tries.1, by have := hok.tries.2; omega⟩, hok.most⟩
 obtain ⟨so, hso⟩ : ∃ so, FsS.again M.L me f = so := ⟨_, rfl⟩
 simp only [hso] at HAG
 have HST : Hid (stepFs M me m t f = (so.1, m, t, so.2)) := Lib.hid (by unfold stepFs; rw [if_neg (by rw [h0]; decide), if_neg (by rw [h0]; decide), if_neg (by rw [h0]; decide), if_neg (by rw [hq]; decide), hso])
 clear hso
 unfold FsC at sb
 clear hq hx hok h
 obtain ⟨⟨rc, ro, rv⟩, failed, tries, ⟨sh, kind, key⟩, most, at_, ⟨g0, ⟨g1, g2, g3⟩, g4, g5, g6, g7, g8⟩, find, cl, prep⟩ := f
 simp only at sb h0 hold hpp HQ HST HWD HAG HNO
 subst h0
 simp only [PlS.val] at HWD
 go_enter Tryz.func75, Tryz.ntmps75
 have fr := Fr.refl C (Kcs c s) LFs w
 have ag := Agr.refl w.heap.size C
 go_wp2_with fail
 revert hst; revert hm; revert sb; revert fr; refine drw ?_; intro fr sb hm hst
 obtain ⟨q1, qi⟩ := such1 sb
 refine wp_such1 sb 16 [] [0, 1, 2, 3, 4, 5, 6, 7, 8, 9, 10, 11, 12, 13, 14] [15, 16, 17] (by kernel_rfl) (by kernel_rfl) ?_
 refine wpPh_nil ?_; try simp only [ox]
 repeat (go_big_quiet_step (fail))
 refine wpQuiet_nil ?_
 refine wpTail_early rfl (fun K' hK' => ?_); go_simp
 revert fr sb hm hst; with_reducible refine pur (HWD _) ?_; rintro e w1 rfl fr sb hm hst
 refine hK' _ _ (mks1 sb) ?_; clear hK' K'
 refine wpTail_late _ _ _ (by kernel_rfl) ?_; try simp only [ox]
 clear qi q1
 go_wp2_with fail
 refine (mem_Cas hm g4 g5 x hwr).mono ?_; clear hm; rintro e w2 ⟨rfl, hm, hf⟩
 rw [HQ.out]
 revert fr sb hst; refine mvf hf (Kcs_mem c s) LM_LFs ag ?_; clear hf; intro fr sb hst
 rw [HNO.out] at hm
 go_wp2_with fail
 refine NoPanic.normal ?_
 go_wp2_with fail
 refine (HAG _ _ hst ⟨_, _, _, sb, fun h => by simp at h, fun h => by simp at h, fun h => by simp at h⟩).mono ?_
 rintro e w9 ⟨rfl, ⟨C9, ag9, own9⟩, hf9⟩
 have ag' := ag.trans ag9 fr.size
 replace fr := fr.trans (hf9.mono (Kcs_0 c s) Fast_LFs) ag
 replace hm := hm.mv hf9 ag9 (.inr ⟨by decide, by decide⟩)
 replace hst := hst.mv hf9 ag9 (.inr (by decide))
 go_wp2_with fail
 go_ret
 exact ⟨by rw [HST.out]; rfl, ⟨_, ag', by rw [HST.out]; exact hm, by rw [HST.out]; exact ⟨hst, own9⟩⟩, fr⟩
theorem fast_Step3_true {w : World} {C : Nat → Nat} {c s sg b : Nat} {M : ML} {m : Mm} {me : Int} {t : StS} {f : FsS} (_ : c ≠ s) (_ : s ≠ 1) (hm : MemAt w C M m) (hst : StAt w C s sg M.L me t) (h : FsAt w C c sg b M.L f) (_ : f.Ok 400000) (hle : t.ret.length ≤ 98000) (h0 : f.at_ = 3) (hold : 0 ≤ f.plan.old ∧ f.plan.old < 18446744073709551616) (hpp : 0 ≤ f.plan.pops ∧ f.plan.pops ≤ 1000) (hq : casOk M m f.plan.addr f.plan.old = true) : Calls Tryz.prog 75 #[.pointer (some ⟨b, 0, none⟩), .pointer (some ⟨M.b, 0, none⟩)] w (MW C c s LFs M (stepFs M me m t f).1 (stepFs M me m t f).2.1 (fun w' C' => StAt w' C' s sg M.L me (stepFs M me m t f).2.2.1 ∧ FsAt w' C' c sg b M.L (stepFs M me m t f).2.2.2) w) := by
 obtain ⟨pf, pc, pp, sb, -, -, -⟩ := h.ex
 have HWD := fun W => plan_Word f.plan hold W
 have hwr : 0 ≤ f.plan.word ∧ f.plan.word < 18446744073709551616 := by
  unfold PlS.word
  split
  ·omega
  ·have := putW_rng ((getW f.plan.old).claimed 0 f.plan.next f.plan.mark).free; omega
 obtain ⟨x, hx⟩ : ∃ x, f.plan.word = x := ⟨_, rfl⟩
 simp only [hx] at HWD hwr
 have HQ := Lib.hid hq
 have HDN := fun W C' (k1 : StAt W C' s sg M.L me t) (k2 : FsC W C' c sg b pf pc pp f) => fast_done k1 k2 (by omega) hpp
 have HST : Hid (stepFs M me m t f = (true, cas M m f.plan.addr f.plan.old x, t.did f.task f.plan, { f with res := f.plan.res })) := Lib.hid (by unfold stepFs; rw [if_neg (by rw [h0]; decide), if_neg (by rw [h0]; decide), if_neg (by rw [h0]; decide), if_pos hq, hx])
 unfold FsC at sb
 clear hq hx h
 obtain ⟨⟨rc, ro, rv⟩, failed, tries, ⟨sh, kind, key⟩, most, at_, ⟨g0, ⟨g1, g2, g3⟩, g4, g5, g6, g7, g8⟩, find, cl, prep⟩ := f
 simp only at sb h0 hold hpp HQ HST HWD HDN
 subst h0
 simp only [PlS.val] at HWD
 go_enter Tryz.func75, Tryz.ntmps75
 have fr := Fr.refl C (Kcs c s) LFs w
 have ag := Agr.refl w.heap.size C
 go_wp2_with fail
 revert hst; revert hm; revert sb; revert fr; refine drw ?_; intro fr sb hm hst
 obtain ⟨q1, qi⟩ := such1 sb
 refine wp_such1 sb 16 [] [0, 1, 2, 3, 4, 5, 6, 7, 8, 9, 10, 11, 12, 13, 14] [15, 16, 17] (by kernel_rfl) (by kernel_rfl) ?_
 refine wpPh_nil ?_; try simp only [ox]
 repeat (go_big_quiet_step (fail))
 refine wpQuiet_nil ?_
 refine wpTail_early rfl (fun K' hK' => ?_); go_simp
 revert fr sb hm hst; with_reducible refine pur (HWD _) ?_; rintro e w1 rfl fr sb hm hst
 refine hK' _ _ (mks1 sb) ?_; clear hK' K'
 refine wpTail_late _ _ _ (by kernel_rfl) ?_; try simp only [ox]
 clear qi q1
 go_wp2_with fail
 refine (mem_Cas hm g4 g5 x hwr).mono ?_; clear hm; rintro e w2 ⟨rfl, hm, hf⟩
 rw [HQ.out]
 revert fr sb hst; refine mvf hf (Kcs_mem c s) LM_LFs ag ?_; clear hf; intro fr sb hst
 go_wp2_with fail
 refine NoPanic.normal ?_
 go_wp2_with fail
 refine (HDN _ _ hst sb).mono ?_
 rintro e w9 ⟨rfl, ⟨C9, ag9, hst9, own9⟩, hf9⟩
 have ag' := ag.trans ag9 fr.size
 replace fr := fr.trans (hf9.mono (fun _ h => h) LFd_LFs) ag
 replace hm := hm.mv hf9 ag9 (.inr ⟨by decide, by decide⟩)
 go_wp2_with fail
 go_ret
 exact ⟨by rw [HST.out]; rfl, ⟨_, ag', by rw [HST.out]; exact hm, by rw [HST.out]; exact ⟨hst9, ⟨_, _, _, own9, fun h => by simp at h, fun h => by simp at h, fun h => by simp at h⟩⟩⟩, fr⟩
structure NewO (C : Nat → Nat) (c : Nat) (LX : List (Option TypeId)) (P : World → (Nat → Nat) → Nat → Prop) (w : World) (e : Ending) (w' : World) : Prop where
 ex : ∃ b C', e = .returned (.pointer (some ⟨b, 0, none⟩)) ∧ Agr w.heap.size C C' ∧ P w' C' b
 fr : Fr C (K0 c) LX w w'
theorem fast_New {w : World} {C : Nat → Nat} {c s sg : Nat} {L : Ly} {me : Int} {t : StS} (hL : L.Ok) (hst : StAt w C s sg L me t) (k : Tk3) (most : Int) (hmay : k.may = true) (hmo : 0 ≤ most ∧ most ≤ 1000) : Calls Tryz.prog 150 #[.pointer (some ⟨sg, 0, none⟩), k.val, .int .i64 most] w (NewO C c [some 187] (fun w' C' b => FsAt w' C' c sg b L (.new L me k most)) w) := by
 obtain ⟨C1, hC1⟩ : ∃ C1, C1 = paint C w.heap.size c := ⟨_, rfl⟩
 have ag1 : Agr w.heap.size C C1 := by rw [hC1]; exact Agr.paint _ _ _
 have hnew : C1 (w.heap.size + 1) = c := by rw [hC1]; exact paint_new C c (by omega)
 have HSK := fun W b (k1 : StAt W C1 s sg L me t) (k2 : FsC W C1 c sg b (.pointer none) (.pointer none) (.pointer none) ⟨⟨0, false, 0⟩, false, 0, k, most, 0, .zero, .new L 0 0 0 0, .new 0, .new 0 0⟩) => fast_seek hL k1 k2 ⟨hmay, by simp, hmo⟩
 have HST : Hid (FsS.new L me k most = FsS.seek L me ⟨⟨0, false, 0⟩, false, 0, k, most, 0, .zero, .new L 0 0 0 0, .new 0, .new 0 0⟩) := Lib.hid rfl
 obtain ⟨sh, kind, key⟩ := k
 clear hC1
 go_enter Tryz.func150, Tryz.ntmps150
 go_wp2_with fail
 have hb0 : Below w.heap.size w (w.alloc (.cells #[.int .i64 sh, .int .i64 kind, .int .i64 key] 85)) := (Below.refl _ _).alloc (Nat.le_refl _) _
 have hb1 := hb0.alloc (by simp) (.cells #[.pointer (some ⟨sg, 0, none⟩), .int .i64 0, .bool false, .int .i64 0, .bool false, .int .i64 0, .int .i64 sh, .int .i64 kind, .int .i64 key, .int .i64 most, .int .i64 0, .bool false, .int .i64 0, .bool false, .int .i64 0, .int .i64 0, .int .u64 0, .int .i64 0, .bool false, .int .i64 0, .pointer none, .pointer none, .pointer none] 187)
 have hst1 := (hst.agr ag1).step hb1
 refine (HSK _ (w.heap.size + 1) hst1 (SB.new _ C1 hnew 187 _ (by simp))).mono ?_
 rintro e w2 ⟨rfl, ⟨C2, ag2, own⟩, hf⟩
 go_wp2_with fail
 go_ret
 exact ⟨⟨w.heap.size + 1, C2, rfl, ag1.trans ag2 hb1.size, by rw [HST.out]; exact own⟩, (Fr.of_below hb1 C _ _).trans hf ag1⟩
structure ExAt (w : World) (C : Nat → Nat) (c b : Nat) (L : Ly) (x : ExS) : Prop where
 blk : SB w C c b 224 #[.int .i64 L.th, .int .i64 L.nd, .int .i64 x.popped, .int .i64 x.gave, .int .i64 x.u, .int .i64 x.task.sh, .int .i64 x.task.kind, .int .i64 x.task.key, .bool true, .int .i64 x.att, .int .i64 x.at_, .int .u64 x.found, .int .u64 x.word]
 found : 0 ≤ x.found ∧ x.found < 18446744073709551616
 word : 0 ≤ x.word ∧ x.word < 18446744073709551616
 u : 0 ≤ x.u ∧ x.u ≤ 7
 popped : 0 ≤ x.popped ∧ x.popped ≤ 1000
def TEx : List (Option TypeId) := [some 224]
theorem ExAt.mv {w w' : World} {C C' : Nat → Nat} {K : Nat → Prop} {T : List (Option TypeId)} {c b : Nat} {L : Ly} {x : ExS} (h : ExAt w C c b L x) (k : Fr C K T w w') (a : Agr w.heap.size C C') (hk : ¬ K c ∨ Away TEx T) : ExAt w' C' c b L x := ⟨h.blk.mv k a (hk.imp id (fun h => h _ (by decide))), h.found, h.word, h.u, h.popped⟩
instance {w : World} {C : Nat → Nat} {c b : Nat} {L : Ly} {x : ExS} : Mv (ExAt w C c b L x) w C TEx (fun w' C' => ExAt w' C' c b L x) := ⟨fun h k a hk => h.mv k a (.inr hk)⟩
def LEx : List (Option TypeId) := [some 224, some 75, some 34]
theorem LM_LEx : ∀ x, x ∈ LM → x ∈ LEx := by decide
structure ExW (C : Nat → Nat) (c b : Nat) (M : ML) (r : Bool × Mm × ExS) (w : World) (e : Ending) (w' : World) : Prop where
 ret : e = .returned (.bool r.1)
 mem : MemAt w' C M r.2.1
 own : ExAt w' C c b M.L r.2.2
 fr : Fr C (Kc c) LEx w w'
theorem fldD0 (v0 v1 v2 v3 v4 v5 v6 : Value) (W : World) : (Instr.field 161 (.agg #[v0, v1, v2, v3, v4, v5, v6]) 0).run Tryz.prog W = .ok v0 W := by kernel_rfl
theorem fldD1 (v0 v1 v2 v3 v4 v5 v6 : Value) (W : World) : (Instr.field 161 (.agg #[v0, v1, v2, v3, v4, v5, v6]) 1).run Tryz.prog W = .ok v1 W := by kernel_rfl
theorem fldD2 (v0 v1 v2 v3 v4 v5 v6 : Value) (W : World) : (Instr.field 161 (.agg #[v0, v1, v2, v3, v4, v5, v6]) 2).run Tryz.prog W = .ok v2 W := by kernel_rfl
theorem fldD5 (v0 v1 v2 v3 v4 v5 v6 : Value) (W : World) : (Instr.field 161 (.agg #[v0, v1, v2, v3, v4, v5, v6]) 5).run Tryz.prog W = .ok v5 W := by kernel_rfl
theorem exec_At (L : Ly) (u : Int) (t : Tk3) (att : Int) (hu : 0 ≤ u ∧ u ≤ 7) (C : Nat → Nat) (c : Nat) (w : World) : Calls Tryz.prog 143 #[L.val, .int .i64 u, t.val, .int .i64 att] w (NewW C c (fun w' C' b => ExAt w' C' c b L (.new u t att)) w) := by
 obtain ⟨th, nd⟩ := L
 obtain ⟨sh, kind, key⟩ := t
 go_enter Tryz.func143, Tryz.ntmps143
 go_wp2_with fail
 have hb0 : Below w.heap.size w (w.alloc (.cells #[.int .i64 th, .int .i64 nd] 31)) := (Below.refl _ _).alloc (Nat.le_refl _) _
 have hb1 := hb0.alloc (by simp) (.cells #[.int .i64 sh, .int .i64 kind, .int .i64 key] 85)
 go_ret
 exact ⟨⟨w.heap.size + 2, rfl, by omega, ⟨SB.new _ _ (paint_new C c (by omega)) _ _ (by simp), by simp [ExS.new], by simp [ExS.new], hu, by simp [ExS.new]⟩⟩, hb1.alloc (by simp <;> omega) _⟩
theorem exec_desc {w : World} {C : Nat → Nat} {c b : Nat} {L : Ly} {x : ExS} (h : ExAt w C c b L x) : Calls Tryz.prog 179 #[.pointer (some ⟨b, 0, none⟩)] w fun e w' => e = .returned (getD' x.found).vals ∧ Below w.heap.size w w' := by
 obtain ⟨popped, gave, u, ⟨sh, kind, key⟩, att, at_, found, word⟩ := x
 obtain ⟨sb, hfd, hwd, hu, hpop⟩ := h
 simp only at sb hfd hwd hu hpop
 have HG := fun W => desc_Get found W hfd
 obtain ⟨D, hD⟩ : ∃ D, getD' found = D := ⟨_, rfl⟩
 simp only [hD] at HG ⊢
 obtain ⟨da, dd, dv, dn, dm, ds, dl⟩ := D
 simp only [Ds.vals] at HG ⊢
 have hl := sb.lt
 clear hD
 go_enter Tryz.func179, Tryz.ntmps179
 have fr := Fr.refl C (fun _ => False) [] w
 have ag := Agr.refl w.heap.size C
 have z1 := sb
 revert sb; revert fr; refine bx1 161 #[.int .i64 0, .int .i64 0, .int .i64 0, .int .i64 0, .bool false, .int .i64 0, .int .i64 0] ?_; rintro w1 edz ldz fr dz sb
 go_wp2_with fail
 clear edz z1
 revert fr dz sb; refine pur (HG _) ?_; rintro e w2 rfl fr dz sb
 have z2 := And.intro sb dz
 have hR := stR
 revert fr sb; refine stsn dz [(0, .int .i64 da), (1, .int .i64 dd), (2, .int .i64 dv), (3, .int .i64 dn), (4, .bool dm), (5, .int .i64 ds), (6, .int .i64 dl)] ?_; clear dz; rintro w3 e1 fr dz sb
 simp only [stx, sx] at e1 dz
 go_wp2_with fail
 clear z2 e1 hR
 refine bodyPost_ret (v := .agg #[.int .i64 da, .int .i64 dd, .int .i64 dv, .int .i64 dn, .bool dm, .int .i64 ds, .int .i64 dl]) (by simp [results, Tryz.results179, go_sem, dz.1]) rfl ⟨rfl, fr.toBel⟩
theorem exec_turn {w : World} {C : Nat → Nat} {c b : Nat} {M : ML} {m : Mm} {x : ExS} (hm : MemAt w C M m) (h : ExAt w C c b M.L x) (d : Ds) : Calls Tryz.prog 184 #[.pointer (some ⟨b, 0, none⟩), .pointer (some ⟨M.b, 0, none⟩), d.vals] w (ExW C c b M (casOk M m (M.L.desc x.u) x.found, cas M m (M.L.desc x.u) x.found (putD d), x) w) := by
 obtain ⟨popped, gave, u, ⟨sh, kind, key⟩, att, at_, found, word⟩ := x
 obtain ⟨sb, hfd, hwd, hu, hpop⟩ := h
 simp only at sb hfd hwd hu hpop
 have HP := desc_Put_ d _ rfl
 have hxr := putD_rng d
 obtain ⟨y, hy⟩ : ∃ y, putD d = y := ⟨_, rfl⟩
 rw [hy] at HP hxr ⊢
 have hxr2 : 0 ≤ y ∧ y < 18446744073709551616 := by omega
 obtain ⟨da, dd, dv, dn, dm, ds, dl⟩ := d
 simp only [Ds.vals] at HP ⊢
 clear hy
 go_enter Tryz.func184, Tryz.ntmps184
 have fr := Fr.refl C (Kc c) LEx w
 have ag := Agr.refl w.heap.size C
 have z1 := sb
 revert hm; revert sb; revert fr; refine bx1 161 #[.int .i64 da, .int .i64 dd, .int .i64 dv, .int .i64 dn, .bool dm, .int .i64 ds, .int .i64 dl] ?_; rintro w1 edz ldz fr dz sb hm
 go_wp2_with fail
 clear edz z1
 revert fr dz sb hm; refine pur (HP _) ?_; rintro e w2 ⟨ec, rfl⟩ fr dz sb hm
 go_wp2_with fail
 revert fr dz sb hm; refine drw ?_; intro fr dz sb hm
 obtain ⟨q1, q2, qi⟩ := such2 sb dz
 refine wp_such2 sb dz 15 [] [0, 1, 2, 3, 4, 5, 6, 7, 8, 10, 11, 12, 13, 14] [9, 15, 16] (by kernel_rfl) (by kernel_rfl) ?_
 refine wpPh_nil ?_; try simp only [ox]
 repeat (go_big_quiet_step (fail))
 refine wpQuiet_nil ?_
 refine wpTail_early rfl (fun K' hK' => ?_); go_simp
 ((with_reducible refine (lay_Desc M.L hm.ok u (by omega) _).mono ?_); rintro e w3 ⟨rfl, hb3⟩)
 revert fr dz sb hm; refine mvb hb3 ?_; intro fr dz sb hm
 refine hK' _ _ (mks2 sb dz) ?_; clear hK' K'
 refine wpTail_late _ _ _ (by kernel_rfl) ?_; try simp only [ox]
 clear qi q1 q2
 go_wp2_with fail
 refine (mem_Cas hm (M.L.desc u) found y hxr2).mono ?_; clear hm; rintro e w4 ⟨rfl, hm, hf⟩
 revert fr dz sb; refine mvf hf (Kc_mem c) LM_LEx ag ?_; clear hf; intro fr dz sb
 go_wp2_with fail
 refine NoPanic.normal ?_
 go_wp2_with fail
 go_ret
 exact ⟨rfl, hm, ⟨sb, hfd, hwd, hu, hpop⟩, fr⟩
theorem exec_put {w : World} {C : Nat → Nat} {c b : Nat} {M : ML} {m : Mm} {x : ExS} (hm : MemAt w C M m) (h : ExAt w C c b M.L x) (W1 : Wd) : Calls Tryz.prog 182 #[.pointer (some ⟨b, 0, none⟩), .pointer (some ⟨M.b, 0, none⟩), W1.val] w (ExW C c b M (casOk M m (getD' x.found).addr x.word, cas M m (getD' x.found).addr x.word (putW W1), x) w) := by
 obtain ⟨popped, gave, u, ⟨sh, kind, key⟩, att, at_, found, word⟩ := x
 obtain ⟨sb, hfd, hwd, hu, hpop⟩ := h
 simp only at sb hfd hwd hu hpop
 have HP := word_Put_ W1 _ rfl
 have hxr := putW_rng W1
 obtain ⟨y, hy⟩ : ∃ y, putW W1 = y := ⟨_, rfl⟩
 rw [hy] at HP hxr ⊢
 have hxr2 : 0 ≤ y ∧ y < 18446744073709551616 := by omega
 have HD := fun (W : World) (k : SB W C c b 224 #[.int .i64 M.L.th, .int .i64 M.L.nd, .int .i64 popped, .int .i64 gave, .int .i64 u, .int .i64 sh, .int .i64 kind, .int .i64 key, .bool true, .int .i64 att, .int .i64 at_, .int .u64 found, .int .u64 word]) => exec_desc (x := ⟨popped, gave, u, ⟨sh, kind, key⟩, att, at_, found, word⟩) ⟨k, hfd, hwd, hu, hpop⟩
 obtain ⟨D, hD⟩ : ∃ D, getD' found = D := ⟨_, rfl⟩
 simp only [hD] at HD ⊢
 have hfl : ∀ W, (Instr.field 161 D.vals 1).run Tryz.prog W = .ok (.int .i64 D.addr) W := fun W => fldD1 _ _ _ _ _ _ _ W
 obtain ⟨k1, k2, k3, k4, k5⟩ := W1
 simp only [Wd.val] at HP ⊢
 clear hy hD
 go_enter Tryz.func182, Tryz.ntmps182
 have fr := Fr.refl C (Kc c) LEx w
 have ag := Agr.refl w.heap.size C
 have z1 := sb
 revert hm; revert sb; revert fr; refine bx1 198 #[.int .i64 k1, .int .i64 k2, .bool k3, .int .i64 k4, .int .i64 k5] ?_; rintro w1 edz ldz fr dz sb hm
 go_wp2_with fail
 clear edz z1
 revert fr dz sb hm; refine pur (HP _) ?_; rintro e w2 ⟨ec, rfl⟩ fr dz sb hm
 go_wp2_with fail
 revert fr dz sb hm; refine drw ?_; intro fr dz sb hm
 obtain ⟨q1, q2, qi⟩ := such2 sb dz
 refine wp_such2 sb dz 9 [([0, 1, 4, 5, 6, 7, 8], 2)] [3] [9, 10] (by kernel_rfl) (by kernel_rfl) ?_
 refine wpPh_cons ?_; simp only [ox]; repeat (go_big_quiet_step (fail))
 refine pho rfl (fun K' hK' => ?_); go_simp
 ((with_reducible refine (HD _ sb).mono ?_); rintro e w3 ⟨rfl, hb3⟩)
 revert fr dz sb hm; refine mvb hb3 ?_; intro fr dz sb hm
 refine hK' _ _ (mks2 sb dz) ?_; clear hK' K'
 refine wpPh_nil ?_; try simp only [ox]
 repeat (go_big_quiet_step (fail))
 refine wpQuiet_nil ?_
 refine wpTail_late _ _ _ (by kernel_rfl) ?_; try simp only [ox]
 clear qi q1 q2
 go_wp2_with fail
 refine (mem_Cas hm D.addr word y hxr2).mono ?_; clear hm; rintro e w4 ⟨rfl, hm, hf⟩
 revert fr dz sb; refine mvf hf (Kc_mem c) LM_LEx ag ?_; clear hf; intro fr dz sb
 go_wp2_with fail
 refine NoPanic.normal ?_
 go_wp2_with fail
 go_ret
 exact ⟨rfl, hm, ⟨sb, hfd, hwd, hu, hpop⟩, fr⟩
end Go.Proofs.YtbcnnhlpilmmbaaGreat
