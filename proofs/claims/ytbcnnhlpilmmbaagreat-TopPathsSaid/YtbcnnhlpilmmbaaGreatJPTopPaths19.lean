/- Texts that are wanted for PTopPaths.
   Conditions: none. -/
import Derived.Test.YtbcnnhlpilmmbaaGreatJPTopPaths17
import Derived.Test.YtbcnnhlpilmmbaaGreatJPTopPaths18
set_option maxRecDepth 100000
set_option maxHeartbeats 6400000
namespace Go.Proofs.YtbcnnhlpilmmbaaGreat
open Go Go.RowKit
def DoC (w : World) (C : Nat → Nat) (c sg b : Nat) (ph pl pe pf pa pr pi pd ps : Value) (d : DoS) : Prop := SB w C c b 129 #[.pointer (some ⟨sg, 0, none⟩), .int .i64 d.res.code, .bool d.res.ok, .int .i64 d.res.val, .bool d.slow, .int .i64 d.task.sh, .int .i64 d.task.kind, .int .i64 d.task.key, .int .i64 d.limit, .int .i64 d.at_, ph, pl, pe, pf, pa, pr, pi, pd, ps]
structure DoAt (w : World) (C : Nat → Nat) (c s sg b : Nat) (L : Ly) (me : Int) (d : DoS) : Prop where
 ex : ∃ ph pl pe pf pa pr pi pd ps, DoC w C c sg b ph pl pe pf pa pr pi pd ps d ∧ (d.at_ = 0 → ∃ b', ph = .pointer (some ⟨b', 0, none⟩) ∧ HdAt w C c b' L d.head) ∧
  (d.at_ = 1 → ∃ b', pl = .pointer (some ⟨b', 0, none⟩) ∧ HpAt w C c s sg b' L d.help) ∧
  (d.at_ = 2 → ∃ b', pe = .pointer (some ⟨b', 0, none⟩) ∧ EnAt w C c s sg b' L d.ens) ∧
  (d.at_ = 3 → ∃ b', pf = .pointer (some ⟨b', 0, none⟩) ∧ FsAt w C c sg b' L d.fast) ∧
  (d.at_ = 4 → ∃ b', pa = .pointer (some ⟨b', 0, none⟩) ∧ AnAt w C c b' L me d.ann) ∧
  (d.at_ = 5 → ∃ b', pl = .pointer (some ⟨b', 0, none⟩) ∧ HpAt w C c s sg b' L d.help) ∧
  (d.at_ = 6 → ∃ b', pr = .pointer (some ⟨b', 0, none⟩) ∧ (∃ r, AsAt w C c b' L me r)) ∧
  (d.at_ = 7 → ∃ b', pi = .pointer (some ⟨b', 0, none⟩) ∧ FiAt w C c b' L d.find) ∧
  (d.at_ = 8 → ∃ b', pd = .pointer (some ⟨b', 0, none⟩) ∧ GcAt w C c b' L d.drop) ∧
  (d.at_ = 9 → ∃ b', ps = .pointer (some ⟨b', 0, none⟩) ∧ SwAt w C c s sg b' L d.sweep)
def TDo : List (Option TypeId) := [some 129, some 142, some 187, some 147, some 151, some 204] ++ THp
theorem DoAt.mv {w w' : World} {C C' : Nat → Nat} {K : Nat → Prop} {T : List (Option TypeId)} {c s sg b : Nat} {L : Ly} {me : Int} {d : DoS} (h : DoAt w C c s sg b L me d) (k : Fr C K T w w') (a : Agr w.heap.size C C') (hk : (¬ K c ∧ ¬ K s) ∨ Away TDo T) : DoAt w' C' c s sg b L me d := by
 obtain ⟨ph, pl, pe, pf, pa, pr, pi, pd, ps, sb, g0, g1, g2, g3, g4, g5, g6, g7, g8, g9⟩ := h.ex
 refine ⟨ph, pl, pe, pf, pa, pr, pi, pd, ps, SB.mv sb k a (hk.imp (·.1) (fun h => h _ (by decide))), fun e => ?_, fun e => ?_, fun e => ?_, fun e => ?_, fun e => ?_, fun e => ?_, fun e => ?_, fun e => ?_, fun e => ?_, fun e => ?_⟩
 ·obtain ⟨b', e1, e2⟩ := g0 e
  exact ⟨b', e1, e2.mv k a (hk.imp (·.1) (fun h x hx => h x (by revert x; decide)))⟩
 ·obtain ⟨b', e1, e2⟩ := g1 e
  exact ⟨b', e1, e2.mv k a (hk.imp id (fun h x hx => h x (by revert x; decide)))⟩
 ·obtain ⟨b', e1, e2⟩ := g2 e
  exact ⟨b', e1, e2.mv k a (hk.imp id (fun h x hx => h x (by revert x; decide)))⟩
 ·obtain ⟨b', e1, e2⟩ := g3 e
  exact ⟨b', e1, e2.mv k a (hk.imp (·.1) (fun h x hx => h x (by revert x; decide)))⟩
 ·obtain ⟨b', e1, e2⟩ := g4 e
  exact ⟨b', e1, e2.mv k a (hk.imp (·.1) (fun h x hx => h x (by revert x; decide)))⟩
 ·obtain ⟨b', e1, e2⟩ := g5 e
  exact ⟨b', e1, e2.mv k a (hk.imp id (fun h x hx => h x (by revert x; decide)))⟩
 ·obtain ⟨b', e1, e2⟩ := g6 e
  exact ⟨b', e1, e2.imp fun r e2 => e2.mv k a (hk.imp (·.1) (fun h x hx => h x (by revert x; decide)))⟩
 ·obtain ⟨b', e1, e2⟩ := g7 e
  exact ⟨b', e1, e2.mv k a (hk.imp (·.1) (fun h x hx => h x (by revert x; decide)))⟩
 ·obtain ⟨b', e1, e2⟩ := g8 e
  exact ⟨b', e1, e2.mv k a (hk.imp (·.1) (fun h => h _ (by decide)))⟩
 ·obtain ⟨b', e1, e2⟩ := g9 e
  exact ⟨b', e1, e2.mv k a (hk.imp id (fun h x hx => h x (by revert x; decide)))⟩
theorem DoAt.fr {w w' : World} {C : Nat → Nat} {K : Nat → Prop} {T : List (Option TypeId)} {c s sg b : Nat} {L : Ly} {me : Int} {x : DoS} (h : DoAt w C c s sg b L me x) (k : Fr C K T w w') (hk : (¬ K c ∧ ¬ K s) ∨ Away TDo T) : DoAt w' C c s sg b L me x := h.mv k (Agr.refl _ _) hk
theorem DoAt.step {w w' : World} {C : Nat → Nat} {c s sg b : Nat} {L : Ly} {me : Int} {x : DoS} (h : DoAt w C c s sg b L me x) (k : Below w.heap.size w w') : DoAt w' C c s sg b L me x := h.mv (Fr.of_below k C (fun _ => False) []) (Agr.refl _ _) (.inr (by decide))
instance {w : World} {C : Nat → Nat} {c s sg b : Nat} {L : Ly} {me : Int} {x : DoS} : Mv (DoAt w C c s sg b L me x) w C TDo (fun w' C' => DoAt w' C' c s sg b L me x) := ⟨fun h k a hk => h.mv k a (.inr hk)⟩
theorem DoAt.of0 {w : World} {C : Nat → Nat} {c s sg b b' : Nat} {L : Ly} {me : Int} {d : DoS} {pl pe pf pa pr pi pd ps : Value} (sb : DoC w C c sg b (.pointer (some ⟨b', 0, none⟩)) pl pe pf pa pr pi pd ps d) (h : d.at_ = 0) (k : HdAt w C c b' L d.head) : DoAt w C c s sg b L me d := ⟨_, _, _, _, _, _, _, _, _, sb, fun _ => ⟨b', rfl, k⟩, fun e => absurd e (by rw [h]; decide), fun e => absurd e (by rw [h]; decide), fun e => absurd e (by rw [h]; decide), fun e => absurd e (by rw [h]; decide), fun e => absurd e (by rw [h]; decide), fun e => absurd e (by rw [h]; decide), fun e => absurd e (by rw [h]; decide), fun e => absurd e (by rw [h]; decide), fun e => absurd e (by rw [h]; decide)⟩
theorem DoAt.of1 {w : World} {C : Nat → Nat} {c s sg b b' : Nat} {L : Ly} {me : Int} {d : DoS} {ph pe pf pa pr pi pd ps : Value} (sb : DoC w C c sg b ph (.pointer (some ⟨b', 0, none⟩)) pe pf pa pr pi pd ps d) (h : d.at_ = 1) (k : HpAt w C c s sg b' L d.help) : DoAt w C c s sg b L me d := ⟨_, _, _, _, _, _, _, _, _, sb, fun e => absurd e (by rw [h]; decide), fun _ => ⟨b', rfl, k⟩, fun e => absurd e (by rw [h]; decide), fun e => absurd e (by rw [h]; decide), fun e => absurd e (by rw [h]; decide), fun e => absurd e (by rw [h]; decide), fun e => absurd e (by rw [h]; decide), fun e => absurd e (by rw [h]; decide), fun e => absurd e (by rw [h]; decide), fun e => absurd e (by rw [h]; decide)⟩
theorem DoAt.of2 {w : World} {C : Nat → Nat} {c s sg b b' : Nat} {L : Ly} {me : Int} {d : DoS} {ph pl pf pa pr pi pd ps : Value} (sb : DoC w C c sg b ph pl (.pointer (some ⟨b', 0, none⟩)) pf pa pr pi pd ps d) (h : d.at_ = 2) (k : EnAt w C c s sg b' L d.ens) : DoAt w C c s sg b L me d := ⟨_, _, _, _, _, _, _, _, _, sb, fun e => absurd e (by rw [h]; decide), fun e => absurd e (by rw [h]; decide), fun _ => ⟨b', rfl, k⟩, fun e => absurd e (by rw [h]; decide), fun e => absurd e (by rw [h]; decide), fun e => absurd e (by rw [h]; decide), fun e => absurd e (by rw [h]; decide), fun e => absurd e (by rw [h]; decide), fun e => absurd e (by rw [h]; decide), fun e => absurd e (by rw [h]; decide)⟩
theorem DoAt.of3 {w : World} {C : Nat → Nat} {c s sg b b' : Nat} {L : Ly} {me : Int} {d : DoS} {ph pl pe pa pr pi pd ps : Value} (sb : DoC w C c sg b ph pl pe (.pointer (some ⟨b', 0, none⟩)) pa pr pi pd ps d) (h : d.at_ = 3) (k : FsAt w C c sg b' L d.fast) : DoAt w C c s sg b L me d := ⟨_, _, _, _, _, _, _, _, _, sb, fun e => absurd e (by rw [h]; decide), fun e => absurd e (by rw [h]; decide), fun e => absurd e (by rw [h]; decide), fun _ => ⟨b', rfl, k⟩, fun e => absurd e (by rw [h]; decide), fun e => absurd e (by rw [h]; decide), fun e => absurd e (by rw [h]; decide), fun e => absurd e (by rw [h]; decide), fun e => absurd e (by rw [h]; decide), fun e => absurd e (by rw [h]; decide)⟩
theorem DoAt.of4 {w : World} {C : Nat → Nat} {c s sg b b' : Nat} {L : Ly} {me : Int} {d : DoS} {ph pl pe pf pr pi pd ps : Value} (sb : DoC w C c sg b ph pl pe pf (.pointer (some ⟨b', 0, none⟩)) pr pi pd ps d) (h : d.at_ = 4) (k : AnAt w C c b' L me d.ann) : DoAt w C c s sg b L me d := ⟨_, _, _, _, _, _, _, _, _, sb, fun e => absurd e (by rw [h]; decide), fun e => absurd e (by rw [h]; decide), fun e => absurd e (by rw [h]; decide), fun e => absurd e (by rw [h]; decide), fun _ => ⟨b', rfl, k⟩, fun e => absurd e (by rw [h]; decide), fun e => absurd e (by rw [h]; decide), fun e => absurd e (by rw [h]; decide), fun e => absurd e (by rw [h]; decide), fun e => absurd e (by rw [h]; decide)⟩
theorem DoAt.of5 {w : World} {C : Nat → Nat} {c s sg b b' : Nat} {L : Ly} {me : Int} {d : DoS} {ph pe pf pa pr pi pd ps : Value} (sb : DoC w C c sg b ph (.pointer (some ⟨b', 0, none⟩)) pe pf pa pr pi pd ps d) (h : d.at_ = 5) (k : HpAt w C c s sg b' L d.help) : DoAt w C c s sg b L me d := ⟨_, _, _, _, _, _, _, _, _, sb, fun e => absurd e (by rw [h]; decide), fun e => absurd e (by rw [h]; decide), fun e => absurd e (by rw [h]; decide), fun e => absurd e (by rw [h]; decide), fun e => absurd e (by rw [h]; decide), fun _ => ⟨b', rfl, k⟩, fun e => absurd e (by rw [h]; decide), fun e => absurd e (by rw [h]; decide), fun e => absurd e (by rw [h]; decide), fun e => absurd e (by rw [h]; decide)⟩
theorem DoAt.of6 {w : World} {C : Nat → Nat} {c s sg b b' : Nat} {L : Ly} {me : Int} {d : DoS} {ph pl pe pf pa pi pd ps : Value} (sb : DoC w C c sg b ph pl pe pf pa (.pointer (some ⟨b', 0, none⟩)) pi pd ps d) (h : d.at_ = 6) (k : (∃ r, AsAt w C c b' L me r)) : DoAt w C c s sg b L me d := ⟨_, _, _, _, _, _, _, _, _, sb, fun e => absurd e (by rw [h]; decide), fun e => absurd e (by rw [h]; decide), fun e => absurd e (by rw [h]; decide), fun e => absurd e (by rw [h]; decide), fun e => absurd e (by rw [h]; decide), fun e => absurd e (by rw [h]; decide), fun _ => ⟨b', rfl, k⟩, fun e => absurd e (by rw [h]; decide), fun e => absurd e (by rw [h]; decide), fun e => absurd e (by rw [h]; decide)⟩
theorem DoAt.of7 {w : World} {C : Nat → Nat} {c s sg b b' : Nat} {L : Ly} {me : Int} {d : DoS} {ph pl pe pf pa pr pd ps : Value} (sb : DoC w C c sg b ph pl pe pf pa pr (.pointer (some ⟨b', 0, none⟩)) pd ps d) (h : d.at_ = 7) (k : FiAt w C c b' L d.find) : DoAt w C c s sg b L me d := ⟨_, _, _, _, _, _, _, _, _, sb, fun e => absurd e (by rw [h]; decide), fun e => absurd e (by rw [h]; decide), fun e => absurd e (by rw [h]; decide), fun e => absurd e (by rw [h]; decide), fun e => absurd e (by rw [h]; decide), fun e => absurd e (by rw [h]; decide), fun e => absurd e (by rw [h]; decide), fun _ => ⟨b', rfl, k⟩, fun e => absurd e (by rw [h]; decide), fun e => absurd e (by rw [h]; decide)⟩
theorem DoAt.of8 {w : World} {C : Nat → Nat} {c s sg b b' : Nat} {L : Ly} {me : Int} {d : DoS} {ph pl pe pf pa pr pi ps : Value} (sb : DoC w C c sg b ph pl pe pf pa pr pi (.pointer (some ⟨b', 0, none⟩)) ps d) (h : d.at_ = 8) (k : GcAt w C c b' L d.drop) : DoAt w C c s sg b L me d := ⟨_, _, _, _, _, _, _, _, _, sb, fun e => absurd e (by rw [h]; decide), fun e => absurd e (by rw [h]; decide), fun e => absurd e (by rw [h]; decide), fun e => absurd e (by rw [h]; decide), fun e => absurd e (by rw [h]; decide), fun e => absurd e (by rw [h]; decide), fun e => absurd e (by rw [h]; decide), fun e => absurd e (by rw [h]; decide), fun _ => ⟨b', rfl, k⟩, fun e => absurd e (by rw [h]; decide)⟩
theorem DoAt.of9 {w : World} {C : Nat → Nat} {c s sg b b' : Nat} {L : Ly} {me : Int} {d : DoS} {ph pl pe pf pa pr pi pd : Value} (sb : DoC w C c sg b ph pl pe pf pa pr pi pd (.pointer (some ⟨b', 0, none⟩)) d) (h : d.at_ = 9) (k : SwAt w C c s sg b' L d.sweep) : DoAt w C c s sg b L me d := ⟨_, _, _, _, _, _, _, _, _, sb, fun e => absurd e (by rw [h]; decide), fun e => absurd e (by rw [h]; decide), fun e => absurd e (by rw [h]; decide), fun e => absurd e (by rw [h]; decide), fun e => absurd e (by rw [h]; decide), fun e => absurd e (by rw [h]; decide), fun e => absurd e (by rw [h]; decide), fun e => absurd e (by rw [h]; decide), fun e => absurd e (by rw [h]; decide), fun _ => ⟨b', rfl, k⟩⟩
def LDs : List (Option TypeId) := [some 129, some 187]
theorem Fast_LDs : ∀ x, x ∈ [some 187] → x ∈ LDs := by decide
theorem do_try {w : World} {C : Nat → Nat} {c s sg b : Nat} {L : Ly} {me : Int} {t : StS} {d : DoS} {ph pl pe pf pa pr pi pd ps : Value} (hL : L.Ok) (hst : StAt w C s sg L me t) (sb : DoC w C c sg b ph pl pe pf pa pr pi pd ps d) (hmay : d.task.may = true) (hlim : 0 ≤ d.limit ∧ d.limit ≤ 1000) : Calls Tryz.prog 108 #[.pointer (some ⟨b, 0, none⟩)] w (OW C (K0 c) LDs (.tuple #[]) (fun w' C' => DoAt w' C' c s sg b L me (d.try_ L me)) w) := by
 unfold DoC at sb
 obtain ⟨⟨A, n, cap, hn, st, hrow⟩, hme, hsp, hsm⟩ := id hst
 clear hn hrow hsm hsp
 obtain ⟨⟨rc, ro, rv⟩, slow, ⟨sh, kind, key⟩, limit, at_, head, help, ens, fast, ann, find, drop, sweep⟩ := d
 simp only at sb hmay hlim
 have HST : Hid (DoS.try_ L me (⟨⟨rc, ro, rv⟩, slow, ⟨sh, kind, key⟩, limit, at_, head, help, ens, fast, ann, find, drop, sweep⟩ : DoS) = (⟨⟨rc, ro, rv⟩, slow, ⟨sh, kind, key⟩, limit, 3, head, help, ens, .new L me ⟨sh, kind, key⟩ limit, ann, find, drop, sweep⟩ : DoS)) := Lib.hid rfl
 go_enter Tryz.func108, Tryz.ntmps108
 have fr := Fr.refl C (K0 c) LDs w
 have ag := Agr.refl w.heap.size C
 go_wp2_with fail
 revert st; revert hst; revert sb; revert fr; refine drw ?_; intro fr sb hst st
 obtain ⟨q1, q2, qi⟩ := such2 sb st
 refine wp_such2 sb st 14 [] [0, 1, 2, 3, 4, 5, 6, 7, 8, 9, 10, 11, 12, 13] [14, 15, 16, 17, 18, 19, 20] (by kernel_rfl) (by kernel_rfl) ?_
 refine wpPh_nil ?_; try simp only [ox]
 repeat (go_big_quiet_step (fail))
 refine wpQuiet_nil ?_
 refine wpTail_late _ _ _ (by kernel_rfl) ?_; try simp only [ox]
 clear qi q1 q2
 go_wp2_with fail
 refine (fast_New (C := C) (c := c) hL hst ⟨sh, kind, key⟩ limit hmay hlim).mono ?_
 rintro e w1 ⟨⟨bf, C1, rfl, ag1, hfs⟩, hf1⟩
 have sz := fr.size
 replace fr := fr.trans (hf1.mono (fun _ h => h) Fast_LDs) ag
 replace sb := sb.mv hf1 ag1 (.inr (by decide))
 replace hst := hst.mv hf1 ag1 (.inr (by decide))
 replace st := st.mv hf1 ag1 (.inr (by decide))
 replace ag := ag.trans ag1 sz
 clear sz ag1 hf1
 have z1 := And.intro sb st
 revert st; revert hfs; revert hst; revert fr; refine st1 sb 9 (.int .i64 3) (fun _ h => h) ag ?_; clear sb; rintro w2 e1 fr sb hst hfs st
 simp only [sx] at sb
 have z2 := And.intro sb st
 revert fr hst hfs st; refine st1 sb 13 (.pointer (some ⟨bf, 0, none⟩)) (fun _ h => h) ag ?_; clear sb; rintro w3 e2 fr sb hst hfs st
 simp only [sx] at sb
 go_wp2_with fail
 try simp only [e1, e2]
 refine NoPanic.normal ?_
 go_wp2_with fail
 clear z1 e1 z2 e2
 go_end0
 exact ⟨rfl, ⟨_, ag, by rw [HST.out]; exact .of3 sb rfl hfs⟩, fr⟩
theorem do_leave {w : World} {C : Nat → Nat} {c s sg b : Nat} {L : Ly} {me : Int} {t : StS} {d : DoS} {ph pl pe pf pa pr pi pd ps : Value} (_ : L.Ok) (hst : StAt w C s sg L me t) (sb : DoC w C c sg b ph pl pe pf pa pr pi pd ps d) (hmay : d.task.may = true) (hlim : 0 ≤ d.limit ∧ d.limit ≤ 1000) : Calls Tryz.prog 84 #[.pointer (some ⟨b, 0, none⟩)] w (OW C (K0 c) LDs (.tuple #[]) (fun w' C' => DoAt w' C' c s sg b L me (d.leave me)) w) := by
 unfold DoC at sb
 obtain ⟨⟨A, n, cap, hn, st, hrow⟩, hme, hsp, hsm⟩ := id hst
 clear hn hrow hsm hsp
 obtain ⟨⟨rc, ro, rv⟩, slow, ⟨sh, kind, key⟩, limit, at_, head, help, ens, fast, ann, find, drop, sweep⟩ := d
 simp only at sb hmay hlim
 have HST : Hid (DoS.leave me (⟨⟨rc, ro, rv⟩, slow, ⟨sh, kind, key⟩, limit, at_, head, help, ens, fast, ann, find, drop, sweep⟩ : DoS) = (⟨⟨rc, ro, rv⟩, slow, ⟨sh, kind, key⟩, limit, 8, head, help, ens, fast, ann, find, ⟨me, 0⟩, sweep⟩ : DoS)) := Lib.hid rfl
 go_enter Tryz.func84, Tryz.ntmps84
 have fr := Fr.refl C (K0 c) LDs w
 have ag := Agr.refl w.heap.size C
 go_wp2_with fail
 revert st; revert sb; revert fr; refine drw ?_; intro fr sb st
 obtain ⟨q1, q2, qi⟩ := such2 sb st
 refine wp_such2 sb st 16 [] [0, 1, 2, 3, 4, 5, 6, 7, 8, 9, 10, 11, 12, 13, 14, 15] [16, 17, 18, 19, 20, 21, 22] (by kernel_rfl) (by kernel_rfl) ?_
 refine wpPh_nil ?_; try simp only [ox]
 repeat (go_big_quiet_step (fail))
 refine wpQuiet_nil ?_
 refine wpTail_late _ _ _ (by kernel_rfl) ?_; try simp only [ox]
 clear qi q1 q2
 go_wp2_with fail
 revert ag fr sb st; refine newb (guard_Drop L me (by omega) C c _) ?_; rintro w1 bd C1 ag fr hgc sb st
 have z1 := And.intro sb st
 revert fr hgc st; refine st1 sb 9 (.int .i64 8) (fun _ h => h) ag ?_; clear sb; rintro w2 e1 fr sb hgc st
 simp only [sx] at sb
 have z2 := And.intro sb st
 revert fr hgc st; refine st1 sb 17 (.pointer (some ⟨bd, 0, none⟩)) (fun _ h => h) ag ?_; clear sb; rintro w3 e2 fr sb hgc st
 simp only [sx] at sb
 go_wp2_with fail
 refine NoPanic.normal ?_
 go_wp2_with fail
 clear z1 e1 z2 e2
 go_end0
 exact ⟨rfl, ⟨_, ag, by rw [HST.out]; exact .of8 sb rfl hgc⟩, fr⟩
theorem do_want_e {w : World} {C : Nat → Nat} {c s sg b : Nat} {L : Ly} {me : Int} {t : StS} {d : DoS} {ph pl pe pf pa pr pi pd ps : Value} (_ : L.Ok) (hst : StAt w C s sg L me t) (sb : DoC w C c sg b ph pl pe pf pa pr pi pd ps d) (hmay : d.task.may = true) (hlim : 0 ≤ d.limit ∧ d.limit ≤ 1000) (hlk : d.task.links = true) (hz : t.spare = 0) : Calls Tryz.prog 72 #[.pointer (some ⟨b, 0, none⟩)] w (OW C (K0 c) LDs (.tuple #[]) (fun w' C' => DoAt w' C' c s sg b L me (d.want L me t)) w) := by
 obtain ⟨⟨A, n, cap, hn, st, hrow⟩, hme, hsp, hsm⟩ := id hst
 clear hn hrow hsm hsp
 have HLI := fun W => task_Links d.task W
 rw [hlk] at HLI
 have dz : (t.spare == 0) = true := by rw [hz]; rfl
 have HST : Hid (d.want L me t = { d with at_ := 2, ens := .new }) := Lib.hid (by unfold DoS.want; rw [if_pos (by rw [hlk, hz]; rfl)])
 unfold DoC at sb
 obtain ⟨⟨rc, ro, rv⟩, slow, ⟨sh, kind, key⟩, limit, at_, head, help, ens, fast, ann, find, drop, sweep⟩ := d
 simp only at sb hmay hlim HLI HST
 clear hlk hz
 go_enter Tryz.func72, Tryz.ntmps72
 have fr := Fr.refl C (K0 c) LDs w
 have ag := Agr.refl w.heap.size C
 go_wp2_with fail
 revert st; revert hst; revert sb; revert fr; refine pur (HLI _) ?_; rintro e w1 rfl fr sb hst st
 go_wp2_with fail
 revert ag fr sb hst st; refine newb (store_Ensure sg L s C c _) ?_; rintro w2 bn C2 ag fr hen sb hst st
 have z1 := And.intro sb st
 revert fr hen hst st; refine st1 sb 9 (.int .i64 2) (fun _ h => h) ag ?_; clear sb; rintro w3 e1 fr sb hen hst st
 simp only [sx] at sb
 have z2 := And.intro sb st
 revert fr hen hst st; refine st1 sb 12 (.pointer (some ⟨bn, 0, none⟩)) (fun _ h => h) ag ?_; clear sb; rintro w4 e2 fr sb hen hst st
 simp only [sx] at sb
 go_wp2_with fail
 clear z1 e1 z2 e2
 go_end0
 exact ⟨rfl, ⟨_, ag, by rw [HST.out]; exact .of2 sb rfl hen⟩, fr⟩
theorem do_want_l {w : World} {C : Nat → Nat} {c s sg b : Nat} {L : Ly} {me : Int} {t : StS} {d : DoS} {ph pl pe pf pa pr pi pd ps : Value} (hL : L.Ok) (hst : StAt w C s sg L me t) (sb : DoC w C c sg b ph pl pe pf pa pr pi pd ps d) (hmay : d.task.may = true) (hlim : 0 ≤ d.limit ∧ d.limit ≤ 1000) (hlk : d.task.links = false) : Calls Tryz.prog 72 #[.pointer (some ⟨b, 0, none⟩)] w (OW C (K0 c) LDs (.tuple #[]) (fun w' C' => DoAt w' C' c s sg b L me (d.want L me t)) w) := by
 obtain ⟨⟨A, n, cap, hn, st, hrow⟩, hme, hsp, hsm⟩ := id hst
 clear hn hrow hsm hsp
 have HTR := fun W C' (k1 : StAt W C' s sg L me t) (k2 : DoC W C' c sg b ph pl pe pf pa pr pi pd ps d) => do_try hL k1 k2 hmay hlim
 have HLI := fun W => task_Links d.task W
 rw [hlk] at HLI
 have HST : Hid (d.want L me t = d.try_ L me) := Lib.hid (by unfold DoS.want; rw [if_neg (by rw [hlk]; simp)])
 unfold DoC at sb
 obtain ⟨⟨rc, ro, rv⟩, slow, ⟨sh, kind, key⟩, limit, at_, head, help, ens, fast, ann, find, drop, sweep⟩ := d
 simp only at sb hmay hlim HLI HST HTR
 clear hlk
 go_enter Tryz.func72, Tryz.ntmps72
 have fr := Fr.refl C (K0 c) LDs w
 have ag := Agr.refl w.heap.size C
 go_wp2_with fail
 revert st; revert hst; revert sb; revert fr; refine pur (HLI _) ?_; rintro e w1 rfl fr sb hst st
 go_wp2_with fail
 refine (HTR _ _ hst sb).mono ?_
 rintro e w9 ⟨rfl, ⟨C9, ag9, own9⟩, hf9⟩
 have ag' := ag.trans ag9 fr.size
 replace fr := fr.trans (hf9.mono (fun _ h => h) (fun _ h => h)) ag
 go_wp2_with fail
 go_end0
 exact ⟨rfl, ⟨_, ag', by rw [HST.out]; exact own9⟩, fr⟩
theorem do_want_s {w : World} {C : Nat → Nat} {c s sg b : Nat} {L : Ly} {me : Int} {t : StS} {d : DoS} {ph pl pe pf pa pr pi pd ps : Value} (hL : L.Ok) (hst : StAt w C s sg L me t) (sb : DoC w C c sg b ph pl pe pf pa pr pi pd ps d) (hmay : d.task.may = true) (hlim : 0 ≤ d.limit ∧ d.limit ≤ 1000) (hlk : d.task.links = true) (hz : t.spare ≠ 0) : Calls Tryz.prog 72 #[.pointer (some ⟨b, 0, none⟩)] w (OW C (K0 c) LDs (.tuple #[]) (fun w' C' => DoAt w' C' c s sg b L me (d.want L me t)) w) := by
 obtain ⟨⟨A, n, cap, hn, st, hrow⟩, hme, hsp, hsm⟩ := id hst
 clear hn hrow hsm hsp
 have HTR := fun W C' (k1 : StAt W C' s sg L me t) (k2 : DoC W C' c sg b ph pl pe pf pa pr pi pd ps d) => do_try hL k1 k2 hmay hlim
 have HLI := fun W => task_Links d.task W
 rw [hlk] at HLI
 have dz : (t.spare == 0) = false := beq_false_of_ne hz
 have HST : Hid (d.want L me t = d.try_ L me) := Lib.hid (by unfold DoS.want; rw [if_neg (by rw [hlk]; simp [hz])])
 unfold DoC at sb
 obtain ⟨⟨rc, ro, rv⟩, slow, ⟨sh, kind, key⟩, limit, at_, head, help, ens, fast, ann, find, drop, sweep⟩ := d
 simp only at sb hmay hlim HLI HST HTR
 clear hlk hz
 go_enter Tryz.func72, Tryz.ntmps72
 have fr := Fr.refl C (K0 c) LDs w
 have ag := Agr.refl w.heap.size C
 go_wp2_with fail
 revert st; revert hst; revert sb; revert fr; refine pur (HLI _) ?_; rintro e w1 rfl fr sb hst st
 go_wp2_with fail
 refine (HTR _ _ hst sb).mono ?_
 rintro e w9 ⟨rfl, ⟨C9, ag9, own9⟩, hf9⟩
 have ag' := ag.trans ag9 fr.size
 replace fr := fr.trans (hf9.mono (fun _ h => h) (fun _ h => h)) ag
 go_wp2_with fail
 go_end0
 exact ⟨rfl, ⟨_, ag', by rw [HST.out]; exact own9⟩, fr⟩
theorem do_want {w : World} {C : Nat → Nat} {c s sg b : Nat} {L : Ly} {me : Int} {t : StS} {d : DoS} {ph pl pe pf pa pr pi pd ps : Value} (hL : L.Ok) (hst : StAt w C s sg L me t) (sb : DoC w C c sg b ph pl pe pf pa pr pi pd ps d) (hmay : d.task.may = true) (hlim : 0 ≤ d.limit ∧ d.limit ≤ 1000) : Calls Tryz.prog 72 #[.pointer (some ⟨b, 0, none⟩)] w (OW C (K0 c) LDs (.tuple #[]) (fun w' C' => DoAt w' C' c s sg b L me (d.want L me t)) w) := by
 cases hlk : d.task.links with
 | false => exact do_want_l hL hst sb hmay hlim hlk
 | true =>
  by_cases hz : t.spare = 0
  ·exact do_want_e hL hst sb hmay hlim hlk hz
  ·exact do_want_s hL hst sb hmay hlim hlk hz
theorem do_looked_n {w : World} {C : Nat → Nat} {c s sg b : Nat} {L : Ly} {me : Int} {t : StS} {d : DoS} (hL : L.Ok) (hst : StAt w C s sg L me t) (h : DoAt w C c s sg b L me d) (h0 : d.at_ = 0) (hmay : d.task.may = true) (hlim : 0 ≤ d.limit ∧ d.limit ≤ 1000) (hq : d.head.u < 0) : Calls Tryz.prog 70 #[.pointer (some ⟨b, 0, none⟩)] w (OW C (K0 c) LDs (.tuple #[]) (fun w' C' => DoAt w' C' c s sg b L me (d.looked L me t)) w) := by
 obtain ⟨ph, pl, pe, pf, pa, pr, pi, pd, ps, sb, g0, -, -, -, -, -, -, -, -, -⟩ := h.ex
 obtain ⟨bx, rfl, hhd⟩ := g0 h0
 have HWA := fun W C' (k1 : StAt W C' s sg L me t) (k2 : DoC W C' c sg b (.pointer (some ⟨bx, 0, none⟩)) pl pe pf pa pr pi pd ps d) => do_want hL k1 k2 hmay hlim
 have hbl := hhd.blk
 obtain ⟨⟨A, n, cap, hn, st, hrow⟩, hme, hsp, hsm⟩ := id hst
 clear hn hrow hsm hsp
 have HST : Hid (d.looked L me t = d.want L me t) := Lib.hid (by unfold DoS.looked; rw [if_pos hq])
 unfold DoC at sb
 obtain ⟨⟨rc, ro, rv⟩, slow, ⟨sh, kind, key⟩, limit, at_, head, help, ens, fast, ann, find, drop, sweep⟩ := d
 simp only at sb hmay hlim hbl HST hq h0 HWA
 subst h0
 obtain ⟨hu, hno, hat, htk⟩ := head
 simp only at hbl HST hq
 have dq : decide (hu < 0) = true := decide_eq_true hq
 clear h hhd hmay hlim
 go_enter Tryz.func70, Tryz.ntmps70
 have fr := Fr.refl C (K0 c) LDs w
 have ag := Agr.refl w.heap.size C
 go_wp2_with fail
 refine (HWA _ _ hst sb).mono ?_
 rintro e w9 ⟨rfl, ⟨C9, ag9, own9⟩, hf9⟩
 have ag' := ag.trans ag9 fr.size
 replace fr := fr.trans (hf9.mono (fun _ h => h) (fun _ h => h)) ag
 go_wp2_with fail
 go_end0
 exact ⟨rfl, ⟨_, ag', by rw [HST.out]; exact own9⟩, fr⟩
theorem do_looked_y {w : World} {C : Nat → Nat} {c s sg b : Nat} {L : Ly} {me : Int} {t : StS} {d : DoS} (_ : L.Ok) (hst : StAt w C s sg L me t) (h : DoAt w C c s sg b L me d) (h0 : d.at_ = 0) (hmay : d.task.may = true) (hlim : 0 ≤ d.limit ∧ d.limit ≤ 1000) (hq : ¬ d.head.u < 0) : Calls Tryz.prog 70 #[.pointer (some ⟨b, 0, none⟩)] w (OW C (K0 c) LDs (.tuple #[]) (fun w' C' => DoAt w' C' c s sg b L me (d.looked L me t)) w) := by
 obtain ⟨ph, pl, pe, pf, pa, pr, pi, pd, ps, sb, g0, -, -, -, -, -, -, -, -, -⟩ := h.ex
 obtain ⟨bx, rfl, hhd⟩ := g0 h0
 have hbl := hhd.blk
 obtain ⟨⟨A, n, cap, hn, st, hrow⟩, hme, hsp, hsm⟩ := id hst
 clear hn hrow hsm hsp
 have HST : Hid (d.looked L me t = { d with at_ := 1, help := .new L d.head.u d.head.no d.limit }) := Lib.hid (by unfold DoS.looked; rw [if_neg hq])
 unfold DoC at sb
 obtain ⟨⟨rc, ro, rv⟩, slow, ⟨sh, kind, key⟩, limit, at_, head, help, ens, fast, ann, find, drop, sweep⟩ := d
 simp only at sb hmay hlim hbl HST hq h0
 subst h0
 obtain ⟨hu, hno, hat, htk⟩ := head
 simp only at hbl HST hq
 have dq : decide (hu < 0) = false := decide_eq_false hq
 clear h hhd hmay hlim
 go_enter Tryz.func70, Tryz.ntmps70
 have fr := Fr.refl C (K0 c) LDs w
 have ag := Agr.refl w.heap.size C
 go_wp2_with fail
 revert hbl; revert st; revert hst; revert sb; revert fr; refine drw ?_; intro fr sb hst st hbl
 obtain ⟨q1, q2, q3, qi⟩ := such3 sb st hbl
 refine wp_such3 sb st hbl 24 [] [0, 1, 2, 3, 4, 5, 6, 7, 8, 9, 10, 11, 12, 13, 14, 15, 16, 17, 18, 19, 20, 21, 22, 23] [24, 25, 26, 27, 28, 29, 30] (by kernel_rfl) (by kernel_rfl) ?_
 refine wpPh_nil ?_; try simp only [ox]
 repeat (go_big_quiet_step (fail))
 refine wpQuiet_nil ?_
 refine wpTail_late _ _ _ (by kernel_rfl) ?_; try simp only [ox]
 clear qi q1 q2 q3
 go_wp2_with fail
 revert ag fr sb hst st hbl; refine newb (help_New sg L s hu hno limit C c _) ?_; rintro w1 bp C1 ag fr hhp sb hst st hbl
 have z1 := And.intro sb (And.intro st hbl)
 revert fr hhp hst st hbl; refine st1 sb 9 (.int .i64 1) (fun _ h => h) ag ?_; clear sb; rintro w2 e1 fr sb hhp hst st hbl
 simp only [sx] at sb
 have z2 := And.intro sb (And.intro st hbl)
 revert fr hhp hst st hbl; refine st1 sb 11 (.pointer (some ⟨bp, 0, none⟩)) (fun _ h => h) ag ?_; clear sb; rintro w3 e2 fr sb hhp hst st hbl
 simp only [sx] at sb
 go_wp2_with fail
 refine NoPanic.normal ?_
 go_wp2_with fail
 clear z1 e1 z2 e2
 go_end0
 exact ⟨rfl, ⟨_, ag, by rw [HST.out]; exact .of1 sb rfl hhp⟩, fr⟩
theorem do_looked {w : World} {C : Nat → Nat} {c s sg b : Nat} {L : Ly} {me : Int} {t : StS} {d : DoS} (hL : L.Ok) (hst : StAt w C s sg L me t) (h : DoAt w C c s sg b L me d) (h0 : d.at_ = 0) (hmay : d.task.may = true) (hlim : 0 ≤ d.limit ∧ d.limit ≤ 1000) : Calls Tryz.prog 70 #[.pointer (some ⟨b, 0, none⟩)] w (OW C (K0 c) LDs (.tuple #[]) (fun w' C' => DoAt w' C' c s sg b L me (d.looked L me t)) w) := by
 by_cases hq : d.head.u < 0
 ·exact do_looked_n hL hst h h0 hmay hlim hq
 ·exact do_looked_y hL hst h h0 hmay hlim hq
theorem do_ensured_y {w : World} {C : Nat → Nat} {c s sg b : Nat} {L : Ly} {me : Int} {t : StS} {d : DoS} (hL : L.Ok) (hst : StAt w C s sg L me t) (h : DoAt w C c s sg b L me d) (h0 : d.at_ = 2) (hmay : d.task.may = true) (hlim : 0 ≤ d.limit ∧ d.limit ≤ 1000) (hq : d.ens.short = true) : Calls Tryz.prog 74 #[.pointer (some ⟨b, 0, none⟩)] w (OW C (K0 c) LDs (.tuple #[]) (fun w' C' => DoAt w' C' c s sg b L me (d.ensured L me)) w) := by
 obtain ⟨ph, pl, pe, pf, pa, pr, pi, pd, ps, sb, -, -, g2, -, -, -, -, -, -, -⟩ := h.ex
 obtain ⟨bx, rfl, hen⟩ := g2 h0
 have HWA := fun W C' (k1 : StAt W C' s sg L me t) (k2 : DoC W C' c sg b ph pl (.pointer (some ⟨bx, 0, none⟩)) pf pa pr pi pd ps { d with res := ⟨4, false, 0⟩ }) => do_leave hL k1 k2 hmay hlim
 obtain ⟨qa, qw, en, -, -⟩ := hen.ex
 rw [hq] at en
 have HST : Hid (d.ensured L me = ({ d with res := ⟨4, false, 0⟩ } : DoS).leave me) := Lib.hid (by unfold DoS.ensured; rw [if_pos hq])
 unfold DoC at sb
 obtain ⟨⟨rc, ro, rv⟩, slow, ⟨sh, kind, key⟩, limit, at_, head, help, ens, fast, ann, find, drop, sweep⟩ := d
 simp only at sb hmay hlim en HST h0 HWA
 subst h0
 clear h hen hmay hlim hq
 go_enter Tryz.func74, Tryz.ntmps74
 have fr := Fr.refl C (K0 c) LDs w
 have ag := Agr.refl w.heap.size C
 go_wp2_with fail
 have z1 := And.intro sb en
 revert en; revert hst; revert fr; refine st1 sb 1 (.int .i64 4) (fun _ h => h) ag ?_; clear sb; rintro w1 e1 fr sb hst en
 simp only [sx] at sb
 have z2 := And.intro sb en
 revert fr hst en; refine st1 sb 2 (.bool false) (fun _ h => h) ag ?_; clear sb; rintro w2 e2 fr sb hst en
 simp only [sx] at sb
 have z3 := And.intro sb en
 revert fr hst en; refine st1 sb 3 (.int .i64 0) (fun _ h => h) ag ?_; clear sb; rintro w3 e3 fr sb hst en
 simp only [sx] at sb
 go_wp2_with fail
 try simp only [e1, e2, e3]
 clear z1 e1 z2 e2 z3 e3
 refine (HWA _ _ hst sb).mono ?_
 rintro e w9 ⟨rfl, ⟨C9, ag9, own9⟩, hf9⟩
 have ag' := ag.trans ag9 fr.size
 replace fr := fr.trans (hf9.mono (fun _ h => h) (fun _ h => h)) ag
 go_wp2_with fail
 go_end0
 exact ⟨rfl, ⟨_, ag', by rw [HST.out]; exact own9⟩, fr⟩
theorem do_ensured_n {w : World} {C : Nat → Nat} {c s sg b : Nat} {L : Ly} {me : Int} {t : StS} {d : DoS} (hL : L.Ok) (hst : StAt w C s sg L me t) (h : DoAt w C c s sg b L me d) (h0 : d.at_ = 2) (hmay : d.task.may = true) (hlim : 0 ≤ d.limit ∧ d.limit ≤ 1000) (hq : d.ens.short = false) : Calls Tryz.prog 74 #[.pointer (some ⟨b, 0, none⟩)] w (OW C (K0 c) LDs (.tuple #[]) (fun w' C' => DoAt w' C' c s sg b L me (d.ensured L me)) w) := by
 obtain ⟨ph, pl, pe, pf, pa, pr, pi, pd, ps, sb, -, -, g2, -, -, -, -, -, -, -⟩ := h.ex
 obtain ⟨bx, rfl, hen⟩ := g2 h0
 have HWA := fun W C' (k1 : StAt W C' s sg L me t) (k2 : DoC W C' c sg b ph pl (.pointer (some ⟨bx, 0, none⟩)) pf pa pr pi pd ps d) => do_try hL k1 k2 hmay hlim
 obtain ⟨qa, qw, en, -, -⟩ := hen.ex
 rw [hq] at en
 have HST : Hid (d.ensured L me = d.try_ L me) := Lib.hid (by unfold DoS.ensured; rw [if_neg (by rw [hq]; decide)])
 unfold DoC at sb
 obtain ⟨⟨rc, ro, rv⟩, slow, ⟨sh, kind, key⟩, limit, at_, head, help, ens, fast, ann, find, drop, sweep⟩ := d
 simp only at sb hmay hlim en HST h0 HWA
 subst h0
 clear h hen hmay hlim hq
 go_enter Tryz.func74, Tryz.ntmps74
 have fr := Fr.refl C (K0 c) LDs w
 have ag := Agr.refl w.heap.size C
 go_wp2_with fail
 refine (HWA _ _ hst sb).mono ?_
 rintro e w9 ⟨rfl, ⟨C9, ag9, own9⟩, hf9⟩
 have ag' := ag.trans ag9 fr.size
 replace fr := fr.trans (hf9.mono (fun _ h => h) (fun _ h => h)) ag
 go_wp2_with fail
 go_end0
 exact ⟨rfl, ⟨_, ag', by rw [HST.out]; exact own9⟩, fr⟩
theorem do_ensured {w : World} {C : Nat → Nat} {c s sg b : Nat} {L : Ly} {me : Int} {t : StS} {d : DoS} (hL : L.Ok) (hst : StAt w C s sg L me t) (h : DoAt w C c s sg b L me d) (h0 : d.at_ = 2) (hmay : d.task.may = true) (hlim : 0 ≤ d.limit ∧ d.limit ≤ 1000) : Calls Tryz.prog 74 #[.pointer (some ⟨b, 0, none⟩)] w (OW C (K0 c) LDs (.tuple #[]) (fun w' C' => DoAt w' C' c s sg b L me (d.ensured L me)) w) := by
 cases hq : d.ens.short with
 | true => exact do_ensured_y hL hst h h0 hmay hlim hq
 | false => exact do_ensured_n hL hst h h0 hmay hlim hq
theorem do_told_n {w : World} {C : Nat → Nat} {c s sg b : Nat} {L : Ly} {me : Int} {t : StS} {d : DoS} {ph pl pe pf pa pr pi pd ps : Value} (hL : L.Ok) (hst : StAt w C s sg L me t) (sb : DoC w C c sg b ph pl pe pf pa pr pi pd ps d) (hmay : d.task.may = true) (hlim : 0 ≤ d.limit ∧ d.limit ≤ 1000) (r : Rsl) (hq : r.ok = false) : Calls Tryz.prog 81 #[.pointer (some ⟨b, 0, none⟩), .agg #[.int .i64 r.code, .bool r.ok, .int .i64 r.val]] w (OW C (K0 c) LDs (.tuple #[]) (fun w' C' => DoAt w' C' c s sg b L me (d.told L me r)) w) := by
 obtain ⟨⟨A, n, cap, hn, st, hrow⟩, hme, hsp, hsm⟩ := id hst
 clear hn hrow hsm hsp
 obtain ⟨qc, qo, qv⟩ := r
 simp only at hq
 subst hq
 have HWA := fun W C' (k1 : StAt W C' s sg L me t) (k2 : DoC W C' c sg b ph pl pe pf pa pr pi pd ps { d with res := ⟨qc, false, qv⟩ }) => do_leave hL k1 k2 hmay hlim
 have HST : Hid (d.told L me ⟨qc, false, qv⟩ = ({ d with res := ⟨qc, false, qv⟩ } : DoS).leave me) := Lib.hid (by unfold DoS.told; simp only; rw [if_pos (Or.inl (by simp))])
 unfold DoC at sb
 obtain ⟨⟨rc, ro, rv⟩, slow, ⟨sh, kind, key⟩, limit, at_, head, help, ens, fast, ann, find, drop, sweep⟩ := d
 simp only at sb hmay hlim HST HWA
 clear hmay
 go_enter Tryz.func81, Tryz.ntmps81
 have fr := Fr.refl C (K0 c) LDs w
 have ag := Agr.refl w.heap.size C
 have z1 := sb
 revert hst; revert sb; revert fr; refine bx1 49 #[.int .i64 qc, .bool false, .int .i64 qv] ?_; rintro w1 erb lrb fr rb sb hst
 have z2 := And.intro sb rb
 have hR := stR
 revert fr rb hst; refine sts sb [(1, .int .i64 qc), (2, .bool false), (3, .int .i64 qv)] (fun _ h => h) ag ?_; clear sb; rintro w2 e1 fr sb rb hst
 simp only [stx, sx] at e1 sb
 go_wp2_with fail
 clear erb z1 z2 e1 hR
 refine (HWA _ _ hst sb).mono ?_
 rintro e w9 ⟨rfl, ⟨C9, ag9, own9⟩, hf9⟩
 have ag' := ag.trans ag9 fr.size
 replace fr := fr.trans (hf9.mono (fun _ h => h) (fun _ h => h)) ag
 go_wp2_with fail
 go_end0
 exact ⟨rfl, ⟨_, ag', by rw [HST.out]; exact own9⟩, fr⟩
theorem do_told_m {w : World} {C : Nat → Nat} {c s sg b : Nat} {L : Ly} {me : Int} {t : StS} {d : DoS} {ph pl pe pf pa pr pi pd ps : Value} (hL : L.Ok) (hst : StAt w C s sg L me t) (sb : DoC w C c sg b ph pl pe pf pa pr pi pd ps d) (hmay : d.task.may = true) (hlim : 0 ≤ d.limit ∧ d.limit ≤ 1000) (r : Rsl) (hq : r.ok = true) (hmk : d.task.marks = false) : Calls Tryz.prog 81 #[.pointer (some ⟨b, 0, none⟩), .agg #[.int .i64 r.code, .bool r.ok, .int .i64 r.val]] w (OW C (K0 c) LDs (.tuple #[]) (fun w' C' => DoAt w' C' c s sg b L me (d.told L me r)) w) := by
 obtain ⟨⟨A, n, cap, hn, st, hrow⟩, hme, hsp, hsm⟩ := id hst
 clear hn hrow hsm hsp
 obtain ⟨qc, qo, qv⟩ := r
 simp only at hq
 subst hq
 have HWA := fun W C' (k1 : StAt W C' s sg L me t) (k2 : DoC W C' c sg b ph pl pe pf pa pr pi pd ps { d with res := ⟨qc, true, qv⟩ }) => do_leave hL k1 k2 hmay hlim
 have HMK := fun W => task_Marks d.task W
 rw [hmk] at HMK
 have HST : Hid (d.told L me ⟨qc, true, qv⟩ = ({ d with res := ⟨qc, true, qv⟩ } : DoS).leave me) := Lib.hid (by unfold DoS.told; simp only; rw [if_pos (.inr hmk)])
 unfold DoC at sb
 obtain ⟨⟨rc, ro, rv⟩, slow, ⟨sh, kind, key⟩, limit, at_, head, help, ens, fast, ann, find, drop, sweep⟩ := d
 simp only at sb hmay hlim HST HWA HMK
 clear hmay hmk
 go_enter Tryz.func81, Tryz.ntmps81
 have fr := Fr.refl C (K0 c) LDs w
 have ag := Agr.refl w.heap.size C
 have z1 := sb
 revert hst; revert sb; revert fr; refine bx1 49 #[.int .i64 qc, .bool true, .int .i64 qv] ?_; rintro w1 erb lrb fr rb sb hst
 have z2 := And.intro sb rb
 have hR := stR
 revert fr rb hst; refine sts sb [(1, .int .i64 qc), (2, .bool true), (3, .int .i64 qv)] (fun _ h => h) ag ?_; clear sb; rintro w2 e1 fr sb rb hst
 simp only [stx, sx] at e1 sb
 go_wp2_with fail
 clear erb z1 z2 e1 hR
 revert fr rb hst sb; refine pur (HMK _) ?_; rintro e w3 rfl fr rb hst sb
 go_wp2_with fail
 refine (HWA _ _ hst sb).mono ?_
 rintro e w9 ⟨rfl, ⟨C9, ag9, own9⟩, hf9⟩
 have ag' := ag.trans ag9 fr.size
 replace fr := fr.trans (hf9.mono (fun _ h => h) (fun _ h => h)) ag
 go_wp2_with fail
 go_end0
 exact ⟨rfl, ⟨_, ag', by rw [HST.out]; exact own9⟩, fr⟩
theorem do_told_y {w : World} {C : Nat → Nat} {c s sg b : Nat} {L : Ly} {me : Int} {t : StS} {d : DoS} {ph pl pe pf pa pr pi pd ps : Value} (hL : L.Ok) (hst : StAt w C s sg L me t) (sb : DoC w C c sg b ph pl pe pf pa pr pi pd ps d) (hmay : d.task.may = true) (hlim : 0 ≤ d.limit ∧ d.limit ≤ 1000) (r : Rsl) (hq : r.ok = true) (hmk : d.task.marks = true) : Calls Tryz.prog 81 #[.pointer (some ⟨b, 0, none⟩), .agg #[.int .i64 r.code, .bool r.ok, .int .i64 r.val]] w (OW C (K0 c) LDs (.tuple #[]) (fun w' C' => DoAt w' C' c s sg b L me (d.told L me r)) w) := by
 obtain ⟨⟨A, n, cap, hn, st, hrow⟩, hme, hsp, hsm⟩ := id hst
 clear hn hrow hsm hsp
 obtain ⟨qc, qo, qv⟩ := r
 simp only at hq
 subst hq
 have HMK := fun W => task_Marks d.task W
 rw [hmk] at HMK
 have HST : Hid (d.told L me ⟨qc, true, qv⟩ = { d with res := ⟨qc, true, qv⟩, at_ := 7, find := .new L me d.task.head d.task.pkey d.limit }) := Lib.hid (by unfold DoS.told; simp only; rw [if_neg (by rw [hmk]; simp)])
 unfold DoC at sb
 obtain ⟨⟨rc, ro, rv⟩, slow, ⟨sh, kind, key⟩, limit, at_, head, help, ens, fast, ann, find, drop, sweep⟩ := d
 simp only at sb hmay hlim HST HMK
 have hkr := (Tk3.rng hmay).key
 have hhr := Tk3.head_rng hmay
 simp only at hkr
 have HPL : ∀ W, Calls Tryz.prog 127 #[.agg #[.int .i64 sh, .int .i64 kind, .int .i64 key]] W fun e w' => e = .returned (.agg #[.int .i64 (Tk3.head ⟨sh, kind, key⟩), .int .i64 (Tk3.pkey ⟨sh, kind, key⟩)]) ∧ Below W.heap.size W w' := fun W => task_Place ⟨sh, kind, key⟩ (by simp only; omega) W
 obtain ⟨hd, hhd⟩ : ∃ hd, Tk3.head ⟨sh, kind, key⟩ = hd := ⟨_, rfl⟩
 obtain ⟨pk, hpk⟩ : ∃ pk, Tk3.pkey ⟨sh, kind, key⟩ = pk := ⟨_, rfl⟩
 simp only [hhd, hpk] at HPL hhr HST
 have HFN := fun C' W => find_New L hL me hd pk limit hhr C' c W
 clear hhd hpk
 clear hmay hmk
 go_enter Tryz.func81, Tryz.ntmps81
 have fr := Fr.refl C (K0 c) LDs w
 have ag := Agr.refl w.heap.size C
 have z1 := And.intro sb st
 revert st; revert sb; revert fr; refine bx1 49 #[.int .i64 qc, .bool true, .int .i64 qv] ?_; rintro w1 erb lrb fr rb sb st
 have z2 := And.intro sb (And.intro st rb)
 have hR := stR
 revert fr rb st; refine sts sb [(1, .int .i64 qc), (2, .bool true), (3, .int .i64 qv)] (fun _ h => h) ag ?_; clear sb; rintro w2 e1 fr sb rb st
 simp only [stx, sx] at e1 sb
 go_wp2_with fail
 clear erb z1 z2 e1 hR
 revert fr rb st sb; refine pur (HMK _) ?_; rintro e w3 rfl fr rb st sb
 go_wp2_with fail
 revert fr rb st sb; refine pur (HPL _) ?_; rintro e w4 rfl fr rb st sb
 have z3 := And.intro sb (And.intro st rb)
 revert fr rb st sb; refine bx1 195 #[.int .i64 hd, .int .i64 pk] ?_; rintro w5 epb lpb fr pb rb st sb
 go_wp2_with fail
 clear epb z3
 revert fr pb rb st sb; refine drw ?_; intro fr pb rb st sb
 obtain ⟨q1, q2, q3, qi⟩ := such3 sb st pb
 refine wp_such3 sb st pb 24 [] [0, 1, 2, 3, 4, 5, 6, 7, 8, 9, 10, 11, 12, 13, 14, 15, 16, 17, 18, 19, 20, 21, 22, 23] [24, 25, 26, 27, 28, 29, 30] (by kernel_rfl) (by kernel_rfl) ?_
 refine wpPh_nil ?_; try simp only [ox]
 repeat (go_big_quiet_step (fail))
 refine wpQuiet_nil ?_
 refine wpTail_late _ _ _ (by kernel_rfl) ?_; try simp only [ox]
 clear qi q1 q2 q3
 go_wp2_with fail
 revert ag fr pb rb st sb; refine newb (HFN C _) ?_; rintro w6 bf C6 ag fr hfi pb rb st sb
 have z4 := And.intro sb (And.intro st (And.intro rb pb))
 revert fr hfi pb rb st; refine st1 sb 9 (.int .i64 7) (fun _ h => h) ag ?_; clear sb; rintro w7 e1 fr sb hfi pb rb st
 simp only [sx] at sb
 have z5 := And.intro sb (And.intro st (And.intro rb pb))
 revert fr hfi pb rb st; refine st1 sb 16 (.pointer (some ⟨bf, 0, none⟩)) (fun _ h => h) ag ?_; clear sb; rintro w8 e2 fr sb hfi pb rb st
 simp only [sx] at sb
 go_wp2_with fail
 refine NoPanic.normal ?_
 go_wp2_with fail
 clear z4 e1 z5 e2
 go_end0
 exact ⟨rfl, ⟨_, ag, by rw [HST.out]; exact .of7 sb rfl hfi⟩, fr⟩
theorem do_told {w : World} {C : Nat → Nat} {c s sg b : Nat} {L : Ly} {me : Int} {t : StS} {d : DoS} {ph pl pe pf pa pr pi pd ps : Value} (hL : L.Ok) (hst : StAt w C s sg L me t) (sb : DoC w C c sg b ph pl pe pf pa pr pi pd ps d) (hmay : d.task.may = true) (hlim : 0 ≤ d.limit ∧ d.limit ≤ 1000) (r : Rsl) : Calls Tryz.prog 81 #[.pointer (some ⟨b, 0, none⟩), .agg #[.int .i64 r.code, .bool r.ok, .int .i64 r.val]] w (OW C (K0 c) LDs (.tuple #[]) (fun w' C' => DoAt w' C' c s sg b L me (d.told L me r)) w) := by
 cases hq : r.ok with
 | false => exact hq ▸ do_told_n hL hst sb hmay hlim r hq
 | true =>
  cases hmk : d.task.marks with
  | false => exact hq ▸ do_told_m hL hst sb hmay hlim r hq hmk
  | true => exact hq ▸ do_told_y hL hst sb hmay hlim r hq hmk
theorem do_tried_n {w : World} {C : Nat → Nat} {c s sg b : Nat} {L : Ly} {me : Int} {t : StS} {d : DoS} (hL : L.Ok) (hst : StAt w C s sg L me t) (h : DoAt w C c s sg b L me d) (h0 : d.at_ = 3) (hmay : d.task.may = true) (hlim : 0 ≤ d.limit ∧ d.limit ≤ 1000) (hq : d.fast.failed = false) : Calls Tryz.prog 76 #[.pointer (some ⟨b, 0, none⟩)] w (OW C (K0 c) LDs (.tuple #[]) (fun w' C' => DoAt w' C' c s sg b L me (d.tried L me)) w) := by
 obtain ⟨ph, pl, pe, pf, pa, pr, pi, pd, ps, sb, -, -, -, g3, -, -, -, -, -, -⟩ := h.ex
 obtain ⟨bx, rfl, hfs⟩ := g3 h0
 have HWA := fun W C' (k1 : StAt W C' s sg L me t) (k2 : DoC W C' c sg b ph pl pe (.pointer (some ⟨bx, 0, none⟩)) pa pr pi pd ps d) => do_told hL k1 k2 hmay hlim d.fast.res
 obtain ⟨qf, qc, qp, fb, -⟩ := hfs.ex
 unfold FsC at fb
 rw [hq] at fb
 obtain ⟨⟨A, n, cap, hn, st, hrow⟩, hme, hsp, hsm⟩ := id hst
 clear hn hrow hsm hsp
 have HST : Hid (d.tried L me = d.told L me d.fast.res) := Lib.hid (by unfold DoS.tried; rw [if_pos hq])
 unfold DoC at sb
 obtain ⟨⟨rc, ro, rv⟩, slow, ⟨sh, kind, key⟩, limit, at_, head, help, ens, fast, ann, find, drop, sweep⟩ := d
 simp only at sb hmay hlim fb HST h0 HWA
 subst h0
 clear h hfs hlim hq
 go_enter Tryz.func76, Tryz.ntmps76
 have fr := Fr.refl C (K0 c) LDs w
 have ag := Agr.refl w.heap.size C
 go_wp2_with fail
 refine (HWA _ _ hst sb).mono ?_
 rintro e w9 ⟨rfl, ⟨C9, ag9, own9⟩, hf9⟩
 have ag' := ag.trans ag9 fr.size
 replace fr := fr.trans (hf9.mono (fun _ h => h) (fun _ h => h)) ag
 go_wp2_with fail
 go_end0
 exact ⟨rfl, ⟨_, ag', by rw [HST.out]; exact own9⟩, fr⟩
theorem do_tried_y {w : World} {C : Nat → Nat} {c s sg b : Nat} {L : Ly} {me : Int} {t : StS} {d : DoS} (_ : L.Ok) (hst : StAt w C s sg L me t) (h : DoAt w C c s sg b L me d) (h0 : d.at_ = 3) (hmay : d.task.may = true) (hlim : 0 ≤ d.limit ∧ d.limit ≤ 1000) (hq : d.fast.failed = true) : Calls Tryz.prog 76 #[.pointer (some ⟨b, 0, none⟩)] w (OW C (K0 c) LDs (.tuple #[]) (fun w' C' => DoAt w' C' c s sg b L me (d.tried L me)) w) := by
 obtain ⟨ph, pl, pe, pf, pa, pr, pi, pd, ps, sb, -, -, -, g3, -, -, -, -, -, -⟩ := h.ex
 obtain ⟨bx, rfl, hfs⟩ := g3 h0
 obtain ⟨qf, qc, qp, fb, -⟩ := hfs.ex
 unfold FsC at fb
 rw [hq] at fb
 obtain ⟨⟨A, n, cap, hn, st, hrow⟩, hme, hsp, hsm⟩ := id hst
 clear hn hrow hsm hsp
 have HST : Hid (d.tried L me = { d with slow := true, at_ := 4, ann := .new d.task }) := Lib.hid (by unfold DoS.tried; rw [if_neg (by rw [hq]; decide)])
 unfold DoC at sb
 obtain ⟨⟨rc, ro, rv⟩, slow, ⟨sh, kind, key⟩, limit, at_, head, help, ens, fast, ann, find, drop, sweep⟩ := d
 simp only at sb hmay hlim fb HST h0
 subst h0
 clear h hfs hlim hq
 go_enter Tryz.func76, Tryz.ntmps76
 have fr := Fr.refl C (K0 c) LDs w
 have ag := Agr.refl w.heap.size C
 go_wp2_with fail
 have z1 := And.intro sb (And.intro st fb)
 revert fb; revert st; revert hst; revert fr; refine st1 sb 4 (.bool true) (fun _ h => h) ag ?_; clear sb; rintro w1 e1 fr sb hst st fb
 simp only [sx] at sb
 go_wp2_with fail
 try simp only [e1]
 clear z1 e1
 revert fr hst st fb sb; refine drw ?_; intro fr hst st fb sb
 obtain ⟨q1, q2, qi⟩ := such2 sb st
 refine wp_such2 sb st 20 [] [0, 1, 2, 3, 4, 5, 6, 7, 8, 9, 10, 11, 12, 13, 14, 15, 16, 17, 18, 19] [20, 21, 22, 23, 24, 25, 26] (by kernel_rfl) (by kernel_rfl) ?_
 refine wpPh_nil ?_; try simp only [ox]
 repeat (go_big_quiet_step (fail))
 refine wpQuiet_nil ?_
 refine wpTail_late _ _ _ (by kernel_rfl) ?_; try simp only [ox]
 clear qi q1 q2
 go_wp2_with fail
 revert ag fr hst st fb sb; refine newb (record_New L me ⟨sh, kind, key⟩ hmay hme C c _) ?_; rintro w2 ba C2 ag fr han hst st fb sb
 have z2 := And.intro sb (And.intro st fb)
 revert fr han hst st fb; refine st1 sb 9 (.int .i64 4) (fun _ h => h) ag ?_; clear sb; rintro w3 e1 fr sb han hst st fb
 simp only [sx] at sb
 have z3 := And.intro sb (And.intro st fb)
 revert fr han hst st fb; refine st1 sb 14 (.pointer (some ⟨ba, 0, none⟩)) (fun _ h => h) ag ?_; clear sb; rintro w4 e2 fr sb han hst st fb
 simp only [sx] at sb
 go_wp2_with fail
 refine NoPanic.normal ?_
 go_wp2_with fail
 clear z2 e1 z3 e2
 go_end0
 exact ⟨rfl, ⟨_, ag, by rw [HST.out]; exact .of4 sb rfl han⟩, fr⟩
theorem do_tried {w : World} {C : Nat → Nat} {c s sg b : Nat} {L : Ly} {me : Int} {t : StS} {d : DoS} (hL : L.Ok) (hst : StAt w C s sg L me t) (h : DoAt w C c s sg b L me d) (h0 : d.at_ = 3) (hmay : d.task.may = true) (hlim : 0 ≤ d.limit ∧ d.limit ≤ 1000) : Calls Tryz.prog 76 #[.pointer (some ⟨b, 0, none⟩)] w (OW C (K0 c) LDs (.tuple #[]) (fun w' C' => DoAt w' C' c s sg b L me (d.tried L me)) w) := by
 cases hq : d.fast.failed with
 | false => exact do_tried_n hL hst h h0 hmay hlim hq
 | true => exact do_tried_y hL hst h h0 hmay hlim hq
structure FsS.Fine (M : ML) (m : Mm) (t : StS) (f : FsS) : Prop where
 ok : f.Ok 400000
 at_ : 0 ≤ f.at_ ∧ f.at_ ≤ 3
 find : f.at_ = 0 → (f.task.links && decide (t.spare = 0)) = false → f.find.Ok 100000 ∧ (0 ≤ f.find.at_ ∧ f.find.at_ ≤ 6) ∧ (stepFi M m f.find).2.2.Ok 100000
 prep : f.at_ = 2 → 0 ≤ f.prep.key
 old : f.at_ = 3 → (0 ≤ f.plan.old ∧ f.plan.old < 18446744073709551616) ∧ 0 ≤ f.plan.pops ∧ f.plan.pops ≤ 1000
theorem fast_Step {w : World} {C : Nat → Nat} {c s sg b : Nat} {M : ML} {m : Mm} {me : Int} {t : StS} {f : FsS} (hcs : c ≠ s) (hs1 : s ≠ 1) (hm : MemAt w C M m) (hst : StAt w C s sg M.L me t) (h : FsAt w C c sg b M.L f) (hf : f.Fine M m t) (hle : t.ret.length ≤ 98000) : Calls Tryz.prog 75 #[.pointer (some ⟨b, 0, none⟩), .pointer (some ⟨M.b, 0, none⟩)] w (MW C c s LFs M (stepFs M me m t f).1 (stepFs M me m t f).2.1 (fun w' C' => StAt w' C' s sg M.L me (stepFs M me m t f).2.2.1 ∧ FsAt w' C' c sg b M.L (stepFs M me m t f).2.2.2) w) := by
 rcases (by have := hf.at_; omega : f.at_ = 0 ∨ f.at_ = 1 ∨ f.at_ = 2 ∨ f.at_ = 3) with h0 | h0 | h0 | h0
 ·cases ho : (f.task.links && decide (t.spare = 0)) with
  | true => exact fast_Step_odd hcs hs1 hm hst h hf.ok hle h0 ho
  | false => exact fast_Step_find hcs hs1 hm hst h hf.ok hle h0 ho (hf.find h0 ho).1 (hf.find h0 ho).2.1 (hf.find h0 ho).2.2
 ·exact fast_Step1 hcs hs1 hm hst h hf.ok hle h0
 ·exact fast_Step2 hcs hs1 hm hst h hf.ok hle h0 (hf.prep h0)
 ·cases hq : casOk M m f.plan.addr f.plan.old with
  | false => exact fast_Step3_false hcs hs1 hm hst h hf.ok hle h0 (hf.old h0).1 (hf.old h0).2 hq
  | true => exact fast_Step3_true hcs hs1 hm hst h hf.ok hle h0 (hf.old h0).1 (hf.old h0).2 hq
structure DoS.Fine (M : ML) (m : Mm) (t : StS) (d : DoS) : Prop where
 may : d.task.may = true
 lim : 0 ≤ d.limit ∧ d.limit ≤ 1000
 len : t.ret.length ≤ 98000
 at_ : 0 ≤ d.at_ ∧ d.at_ ≤ 9
 head : d.at_ = 0 → d.head.at_ < M.L.th
 help : d.at_ = 1 ∨ d.at_ = 5 → d.help.Fine M m
 live : d.at_ = 2 → d.ens.Live
 fast : d.at_ = 3 → d.fast.Fine M m t
 ann : d.at_ = 4 → 0 ≤ d.ann.at_ ∧ d.ann.at_ ≤ 4
 drop : d.at_ = 8 → d.drop.at_ ≤ 50
 find : d.at_ = 7 → d.find.Ok 100000 ∧ (0 ≤ d.find.at_ ∧ d.find.at_ ≤ 6) ∧ (stepFi M m d.find).2.2.Ok 100000
def LDo : List (Option TypeId) := [some 129, some 142, some 187, some 147, some 151, some 204] ++ LHp
theorem LHd_LDo : ∀ x, x ∈ LHd → x ∈ LDo := by decide
theorem LHp_LDo : ∀ x, x ∈ LHp → x ∈ LDo := by decide
theorem LEn_LDo : ∀ x, x ∈ LEn → x ∈ LDo := by decide
theorem LFs_LDo : ∀ x, x ∈ LFs → x ∈ LDo := by decide
theorem LAn_LDo : ∀ x, x ∈ LAn → x ∈ LDo := by decide
theorem LAs_LDo : ∀ x, x ∈ LAs → x ∈ LDo := by decide
theorem LFi_LDo : ∀ x, x ∈ LFi → x ∈ LDo := by decide
theorem LGc_LDo : ∀ x, x ∈ LGc → x ∈ LDo := by decide
theorem LSw_LDo : ∀ x, x ∈ LSw → x ∈ LDo := by decide
theorem LDs_LDo : ∀ x, x ∈ LDs → x ∈ LDo := by decide
theorem TSt_LDo : ∀ x, x ∈ TSt → x ∈ LDo := by decide
theorem do_begin0 {w : World} {C : Nat → Nat} {c s sg b : Nat} {M : ML} {m : Mm} {me : Int} {t : StS} {d : DoS} (_ : c ≠ s) (_ : s ≠ 1) (hm : MemAt w C M m) (hst : StAt w C s sg M.L me t) (h : DoAt w C c s sg b M.L me d) (hf : d.Fine M m t) (h0 : d.at_ = 0) : Calls Tryz.prog 62 #[.pointer (some ⟨b, 0, none⟩), .pointer (some ⟨M.b, 0, none⟩)] w (MV C c s LDo (.tuple #[]) M (stepDo M me m t d).2.1 (fun w' C' => StAt w' C' s sg M.L me (stepDo M me m t d).2.2.1 ∧ DoAt w' C' c s sg b M.L me (stepDo M me m t d).2.2.2) w) := by
 obtain ⟨ph, pl, pe, pf, pa, pr, pi, pd, ps, sb, g0, -, -, -, -, -, -, -, -, -⟩ := h.ex
 obtain ⟨bx, rfl, hhd⟩ := g0 h0
 have hmay := hf.may
 have hlim := hf.lim
 have hle := hf.len
 have HHD := fun W C' (k1 : MemAt W C' M m) (k2 : HdAt W C' c bx M.L d.head) => head_Step k1 k2 (hf.head h0)
 obtain ⟨r, hr⟩ : ∃ r, stepHd M m d.head = r := ⟨_, rfl⟩
 simp only [hr] at HHD
 obtain ⟨r1, m', hd2⟩ := r
 have HWA := fun W C' (k1 : StAt W C' s sg M.L me t) (k2 : DoAt W C' c s sg b M.L me { d with head := hd2 }) => do_looked hm.ok k1 k2 h0 hmay hlim
 have HST : Hid (stepDo M me m t d = (false, m', t, if r1 then DoS.looked M.L me t { d with head := hd2 } else { d with head := hd2 })) := Lib.hid (by unfold stepDo; simp only; rw [if_pos h0]; simp only [hr])
 unfold DoC at sb
 clear hr
 obtain ⟨⟨rc, ro, rv⟩, slow, ⟨sh, kind, key⟩, limit, at_, head, help, ens, fast, ann, find, drop, sweep⟩ := d
 simp only at sb h0 hhd HST HWA HHD
 subst h0
 clear h hf hle hmay hlim
 go_enter Tryz.func62, Tryz.ntmps62
 have fr := Fr.refl C (Kcs c s) LDo w
 have ag := Agr.refl w.heap.size C
 go_wp2_with fail
 refine (HHD _ _ hm hhd).mono ?_; clear hm hhd; rintro e w1 ⟨rfl, hm, hhd, hf⟩
 revert hst; revert sb; revert fr; refine mvf hf (Kcs_c c s) LHd_LDo ag ?_; clear hf; intro fr sb hst
 try dsimp only at hm hhd
 cases r1
 ·skip
  go_wp2_with fail
  go_end0
  exact ⟨rfl, ⟨_, ag, by rw [HST.out]; exact hm, by rw [HST.out]; exact ⟨hst, .of0 sb rfl hhd⟩⟩, fr⟩
 ·skip
  go_wp2_with fail
  refine (HWA _ _ hst (.of0 sb rfl hhd)).mono ?_
  rintro e w9 ⟨rfl, ⟨C9, ag9, own9⟩, hf9⟩
  have ag' := ag.trans ag9 fr.size
  replace fr := fr.trans (hf9.mono (Kcs_0 c s) LDs_LDo) ag
  replace hm := hm.mv hf9 ag9 (.inr ⟨by decide, by decide⟩)
  replace hst := hst.mv hf9 ag9 (.inr (by decide))
  go_wp2_with fail
  go_end0
  exact ⟨rfl, ⟨_, ag', by rw [HST.out]; exact hm, by rw [HST.out]; exact ⟨hst, own9⟩⟩, fr⟩
theorem do_begin1 {w : World} {C : Nat → Nat} {c s sg b : Nat} {M : ML} {m : Mm} {me : Int} {t : StS} {d : DoS} (hcs : c ≠ s) (hs1 : s ≠ 1) (hm : MemAt w C M m) (hst : StAt w C s sg M.L me t) (h : DoAt w C c s sg b M.L me d) (hf : d.Fine M m t) (h0 : d.at_ = 1) : Calls Tryz.prog 62 #[.pointer (some ⟨b, 0, none⟩), .pointer (some ⟨M.b, 0, none⟩)] w (MV C c s LDo (.tuple #[]) M (stepDo M me m t d).2.1 (fun w' C' => StAt w' C' s sg M.L me (stepDo M me m t d).2.2.1 ∧ DoAt w' C' c s sg b M.L me (stepDo M me m t d).2.2.2) w) := by
 obtain ⟨ph, pl, pe, pf, pa, pr, pi, pd, ps, sb, -, g1, -, -, -, -, -, -, -, -⟩ := h.ex
 obtain ⟨bx, rfl, hhp⟩ := g1 h0
 have hmay := hf.may
 have hlim := hf.lim
 have hle := hf.len
 have HHP := fun W C' (k1 : MemAt W C' M m) (k2 : StAt W C' s sg M.L me t) (k3 : HpAt W C' c s sg bx M.L d.help) => help_Step hcs hs1 k1 k2 k3 hle (hf.help (.inl h0))
 obtain ⟨r, hr⟩ : ∃ r, stepHp M me m t d.help = r := ⟨_, rfl⟩
 simp only [hr] at HHP
 obtain ⟨r1, m', t2, hp2⟩ := r
 have HWA := fun W C' (k1 : StAt W C' s sg M.L me t2) (k2 : DoC W C' c sg b ph (.pointer (some ⟨bx, 0, none⟩)) pe pf pa pr pi pd ps { d with help := hp2 }) => do_want hm.ok k1 k2 hmay hlim
 have HST : Hid (stepDo M me m t d = (false, m', t2, if r1 then DoS.want M.L me t2 { d with help := hp2 } else { d with help := hp2 })) := Lib.hid (by unfold stepDo; simp only; rw [if_neg (by rw [h0]; decide)]; rw [if_pos h0]; simp only [hr])
 unfold DoC at sb
 clear hr
 obtain ⟨⟨rc, ro, rv⟩, slow, ⟨sh, kind, key⟩, limit, at_, head, help, ens, fast, ann, find, drop, sweep⟩ := d
 simp only at sb h0 hhp HST HWA HHP
 subst h0
 clear h hf hle hmay hlim
 go_enter Tryz.func62, Tryz.ntmps62
 have fr := Fr.refl C (Kcs c s) LDo w
 have ag := Agr.refl w.heap.size C
 go_wp2_with fail
 refine (HHP _ _ hm hst hhp).mono ?_; clear hm hst hhp; rintro e w1 ⟨rfl, ⟨C1, aG, hm, hst, hhp⟩, hf⟩
 revert sb; revert fr; revert ag; refine mvm hf aG (fun _ h => h) LHp_LDo ?_; clear hf aG; intro ag fr sb
 try dsimp only at hm hst hhp
 cases r1
 ·skip
  go_wp2_with fail
  go_end0
  exact ⟨rfl, ⟨_, ag, by rw [HST.out]; exact hm, by rw [HST.out]; exact ⟨hst, .of1 sb rfl hhp⟩⟩, fr⟩
 ·skip
  go_wp2_with fail
  refine (HWA _ _ hst sb).mono ?_
  rintro e w9 ⟨rfl, ⟨C9, ag9, own9⟩, hf9⟩
  have ag' := ag.trans ag9 fr.size
  replace fr := fr.trans (hf9.mono (Kcs_0 c s) LDs_LDo) ag
  replace hm := hm.mv hf9 ag9 (.inr ⟨by decide, by decide⟩)
  replace hst := hst.mv hf9 ag9 (.inr (by decide))
  go_wp2_with fail
  go_end0
  exact ⟨rfl, ⟨_, ag', by rw [HST.out]; exact hm, by rw [HST.out]; exact ⟨hst, own9⟩⟩, fr⟩
theorem do_begin2 {w : World} {C : Nat → Nat} {c s sg b : Nat} {M : ML} {m : Mm} {me : Int} {t : StS} {d : DoS} (_ : c ≠ s) (_ : s ≠ 1) (hm : MemAt w C M m) (hst : StAt w C s sg M.L me t) (h : DoAt w C c s sg b M.L me d) (hf : d.Fine M m t) (h0 : d.at_ = 2) : Calls Tryz.prog 62 #[.pointer (some ⟨b, 0, none⟩), .pointer (some ⟨M.b, 0, none⟩)] w (MV C c s LDo (.tuple #[]) M (stepDo M me m t d).2.1 (fun w' C' => StAt w' C' s sg M.L me (stepDo M me m t d).2.2.1 ∧ DoAt w' C' c s sg b M.L me (stepDo M me m t d).2.2.2) w) := by
 obtain ⟨ph, pl, pe, pf, pa, pr, pi, pd, ps, sb, -, -, g2, -, -, -, -, -, -, -⟩ := h.ex
 obtain ⟨bx, rfl, hen⟩ := g2 h0
 have hmay := hf.may
 have hlim := hf.lim
 have hle := hf.len
 have HEN := fun W C' (k1 : MemAt W C' M m) (k2 : StAt W C' s sg M.L me t) (k3 : EnAt W C' c s sg bx M.L d.ens) => ensure_Step k1 k2 k3 (by omega) (hf.live h0)
 obtain ⟨r, hr⟩ : ∃ r, stepEn M me m t d.ens = r := ⟨_, rfl⟩
 simp only [hr] at HEN
 obtain ⟨r1, m', t2, en2⟩ := r
 have HWA := fun W C' (k1 : StAt W C' s sg M.L me t2) (k2 : DoAt W C' c s sg b M.L me { d with ens := en2 }) => do_ensured hm.ok k1 k2 h0 hmay hlim
 have HST : Hid (stepDo M me m t d = (false, m', t2, if r1 then DoS.ensured M.L me { d with ens := en2 } else { d with ens := en2 })) := Lib.hid (by unfold stepDo; simp only; rw [if_neg (by rw [h0]; decide)]; rw [if_neg (by rw [h0]; decide)]; rw [if_pos h0]; simp only [hr])
 unfold DoC at sb
 clear hr
 obtain ⟨⟨rc, ro, rv⟩, slow, ⟨sh, kind, key⟩, limit, at_, head, help, ens, fast, ann, find, drop, sweep⟩ := d
 simp only at sb h0 hen HST HWA HEN
 subst h0
 clear h hf hle hmay hlim
 go_enter Tryz.func62, Tryz.ntmps62
 have fr := Fr.refl C (Kcs c s) LDo w
 have ag := Agr.refl w.heap.size C
 go_wp2_with fail
 refine (HEN _ _ hm hst hen).mono ?_; clear hm hst hen; rintro e w1 ⟨rfl, ⟨C1, aG, hm, hst, hen⟩, hf⟩
 revert sb; revert fr; revert ag; refine mvm hf aG (fun _ h => h) LEn_LDo ?_; clear hf aG; intro ag fr sb
 try dsimp only at hm hst hen
 cases r1
 ·skip
  go_wp2_with fail
  go_end0
  exact ⟨rfl, ⟨_, ag, by rw [HST.out]; exact hm, by rw [HST.out]; exact ⟨hst, .of2 sb rfl hen⟩⟩, fr⟩
 ·skip
  go_wp2_with fail
  refine (HWA _ _ hst (.of2 sb rfl hen)).mono ?_
  rintro e w9 ⟨rfl, ⟨C9, ag9, own9⟩, hf9⟩
  have ag' := ag.trans ag9 fr.size
  replace fr := fr.trans (hf9.mono (Kcs_0 c s) LDs_LDo) ag
  replace hm := hm.mv hf9 ag9 (.inr ⟨by decide, by decide⟩)
  replace hst := hst.mv hf9 ag9 (.inr (by decide))
  go_wp2_with fail
  go_end0
  exact ⟨rfl, ⟨_, ag', by rw [HST.out]; exact hm, by rw [HST.out]; exact ⟨hst, own9⟩⟩, fr⟩
theorem do_begin3 {w : World} {C : Nat → Nat} {c s sg b : Nat} {M : ML} {m : Mm} {me : Int} {t : StS} {d : DoS} (hcs : c ≠ s) (hs1 : s ≠ 1) (hm : MemAt w C M m) (hst : StAt w C s sg M.L me t) (h : DoAt w C c s sg b M.L me d) (hf : d.Fine M m t) (h0 : d.at_ = 3) : Calls Tryz.prog 62 #[.pointer (some ⟨b, 0, none⟩), .pointer (some ⟨M.b, 0, none⟩)] w (MV C c s LDo (.tuple #[]) M (stepDo M me m t d).2.1 (fun w' C' => StAt w' C' s sg M.L me (stepDo M me m t d).2.2.1 ∧ DoAt w' C' c s sg b M.L me (stepDo M me m t d).2.2.2) w) := by
 obtain ⟨ph, pl, pe, pf, pa, pr, pi, pd, ps, sb, -, -, -, g3, -, -, -, -, -, -⟩ := h.ex
 obtain ⟨bx, rfl, hfs⟩ := g3 h0
 have hmay := hf.may
 have hlim := hf.lim
 have hle := hf.len
 have HFS := fun W C' (k1 : MemAt W C' M m) (k2 : StAt W C' s sg M.L me t) (k3 : FsAt W C' c sg bx M.L d.fast) => fast_Step hcs hs1 k1 k2 k3 (hf.fast h0) hle
 obtain ⟨r, hr⟩ : ∃ r, stepFs M me m t d.fast = r := ⟨_, rfl⟩
 simp only [hr] at HFS
 obtain ⟨r1, m', t2, fs2⟩ := r
 have HWA := fun W C' (k1 : StAt W C' s sg M.L me t2) (k2 : DoAt W C' c s sg b M.L me { d with fast := fs2 }) => do_tried hm.ok k1 k2 h0 hmay hlim
 have HST : Hid (stepDo M me m t d = (false, m', t2, if r1 then DoS.tried M.L me { d with fast := fs2 } else { d with fast := fs2 })) := Lib.hid (by unfold stepDo; simp only; rw [if_neg (by rw [h0]; decide)]; rw [if_neg (by rw [h0]; decide)]; rw [if_neg (by rw [h0]; decide)]; rw [if_pos h0]; simp only [hr])
 unfold DoC at sb
 clear hr
 obtain ⟨⟨rc, ro, rv⟩, slow, ⟨sh, kind, key⟩, limit, at_, head, help, ens, fast, ann, find, drop, sweep⟩ := d
 simp only at sb h0 hfs HST HWA HFS
 subst h0
 clear h hf hle hmay hlim
 go_enter Tryz.func62, Tryz.ntmps62
 have fr := Fr.refl C (Kcs c s) LDo w
 have ag := Agr.refl w.heap.size C
 go_wp2_with fail
 refine (HFS _ _ hm hst hfs).mono ?_; clear hm hst hfs; rintro e w1 ⟨rfl, ⟨C1, aG, hm, hst, hfs⟩, hf⟩
 revert sb; revert fr; revert ag; refine mvm hf aG (fun _ h => h) LFs_LDo ?_; clear hf aG; intro ag fr sb
 try dsimp only at hm hst hfs
 cases r1
 ·skip
  go_wp2_with fail
  go_end0
  exact ⟨rfl, ⟨_, ag, by rw [HST.out]; exact hm, by rw [HST.out]; exact ⟨hst, .of3 sb rfl hfs⟩⟩, fr⟩
 ·skip
  go_wp2_with fail
  refine (HWA _ _ hst (.of3 sb rfl hfs)).mono ?_
  rintro e w9 ⟨rfl, ⟨C9, ag9, own9⟩, hf9⟩
  have ag' := ag.trans ag9 fr.size
  replace fr := fr.trans (hf9.mono (Kcs_0 c s) LDs_LDo) ag
  replace hm := hm.mv hf9 ag9 (.inr ⟨by decide, by decide⟩)
  replace hst := hst.mv hf9 ag9 (.inr (by decide))
  go_wp2_with fail
  go_end0
  exact ⟨rfl, ⟨_, ag', by rw [HST.out]; exact hm, by rw [HST.out]; exact ⟨hst, own9⟩⟩, fr⟩
end Go.Proofs.YtbcnnhlpilmmbaaGreat
