/- Texts that are wanted for PTopPaths.
   Conditions: none. -/
import Derived.Test.YtbcnnhlpilmmbaaGreatJPTopPaths27
set_option maxRecDepth 100000
set_option maxHeartbeats 6400000
namespace Go.Proofs.YtbcnnhlpilmmbaaGreat
open Go Go.RowKit
theorem law_tpaths (sh th nd tr : Int) (A : Option Addr) (n cap B : Nat) (ops : List (List Opn)) (AL : Option Addr) (m cl : Nat) (ps : List Pki) (w : World) (hs : OpsAt w B A n ops) (hl : Sl w B 2 AL m (ps.flatMap Pki.cells)) (hpl : ps.length = m) (hB : B ≤ w.heap.size) :
  Calls Tryz.prog 5 #[.agg #[.int .i64 sh, .int .i64 th, .int .i64 nd, .int .i64 tr, .slice A n cap], .slice AL m cl] w fun e w' => e = .returned (.bool true) ∧ Below w.heap.size w w' := by
 obtain ⟨jb, hjb⟩ : ∃ jb, w.heap.size = jb := ⟨_, rfl⟩
 have hb1 : Below w.heap.size w (w.alloc (.cells #[.int .i64 sh, .int .i64 th, .int .i64 nd, .int .i64 tr, .slice A n cap] 24)) := (Below.refl _ _).alloc (Nat.le_refl _) _
 have x1 := Blk.newAt w 24 #[.int .i64 sh, .int .i64 th, .int .i64 nd, .int .i64 tr, .slice A n cap] hjb.symm
 go_enter Tryz.func5, Tryz.ntmps5
 go_wp2_with fail
 try simp only [hjb]
 generalize (w.alloc (.cells #[.int .i64 sh, .int .i64 th, .int .i64 nd, .int .i64 tr, .slice A n cap] 24)) = w1 at *
 refine (top_asleep _).mono ?_
 rintro r w2 ⟨rfl, hb2⟩
 replace hb1 := hb1.trans (hb2.mono hb1.size)
 replace x1 := x1.step hb2
 clear hb2
 have hc := x1.cells
 go_wp2_with fail
 refine (top_great sh th nd tr A n cap B ops AL m cl _ (hs.below (hb1.mono hB)) (Nat.le_trans hB hb1.size)).mono ?_
 rintro r w3 ⟨⟨g, rfl, hg⟩, hb3⟩
 have HG := Lib.hid hg
 replace hb1 := hb1.trans (hb3.mono hb1.size)
 replace x1 := x1.step hb3
 clear hb3 hc hg
 have hc := x1.cells
 cases g with
 | true =>
  go_wp2_with fail
  go_ret
  exact ⟨rfl, hb1⟩
 | false =>
 obtain ⟨hm60, hj⟩ : m ≤ 60 ∧ JobOk sh th nd tr n ops := by have := HG.out; simpa using this
 clear HG
 go_wp2_with fail
 refine (top_begin sh th nd tr A n cap B ops _ (hs.below (hb1.mono hB)) (Nat.le_trans hB hb1.size) hj).mono ?_
 rintro r w4 ⟨⟨b, E, C4, rfl, hEL, hEB, hlow, hE⟩, hb4⟩
 have hI : TpI w b E (.init sh tr ops) [⟨jb, 24, #[.int .i64 sh, .int .i64 th, .int .i64 nd, .int .i64 tr, .slice A n cap]⟩] w4 :=
  ⟨hb1.trans (hb4.mono hb1.size), EgOk.init (by rw [hEL]; exact hj.cfg) hj.h40 hj.may, Nat.le_trans hb1.size hEB, fun x hx => by obtain rfl := List.mem_singleton.1 hx; exact ⟨by simp only; omega, show some 24 ∉ THs from by decide⟩, C4, hE, fun g hg => hlow g (Nat.lt_of_lt_of_le hg hb1.size), fun x hx => by obtain rfl := List.mem_singleton.1 hx; exact SB.mk (x1.step hb4) (hlow jb x1.lt)⟩
 clear hb4 hE hlow hEB hc x1 hb1
 have hc := (hI.blk (List.mem_cons_self ..)).cells
 go_wp2_with fail
 refine (tp_layout hI).mono ?_
 rintro r w5 ⟨rfl, hb5⟩
 replace hI := hI.step hb5
 rw [hEL]
 simp only [Ly.val]
 clear hc hb5
 have hth := hj.cfg.lay.th
 simp only at hth
 have hjx := hI.blk (List.mem_cons_self ..)
 have hc := hjx.cells
 have hjl := hjx.lt
 have hmk := run_words th (by omega) (by omega)
 go_wp2_with fail
 replace hI := (hI.alloc 31 #[.int .i64 th, .int .i64 nd] (by decide)).alloc 34 (wordsA th.toNat (fun _ => 0)) (by decide)
 obtain ⟨lb, hlb⟩ : ∃ lb, w5.heap.size = lb := ⟨_, rfl⟩
 have hjl2 : jb < lb := by rw [← hlb]; exact hjl
 clear hmk hc hjx hjl
 obtain ⟨wb, hwb⟩ : ∃ wb, (w5.alloc (.cells #[.int .i64 th, .int .i64 nd] 31)).heap.size = wb := ⟨_, rfl⟩
 have hwb2 : lb + 1 = wb := by rw [← hwb, ← hlb]; simp
 generalize (w5.alloc (.cells #[.int .i64 th, .int .i64 nd] 31)).alloc (.cells (wordsA th.toNat (fun _ => 0)) 34) = w6 at *
 simp only [hlb, hwb] at hI ⊢
 try simp only [hwb2]
 obtain ⟨N, hN⟩ : ∃ N, th.toNat = N := ⟨_, rfl⟩
 have hN2 : (N : Int) = th := by omega
 rw [hN] at hI
 simp only [hN]
 obtain ⟨K, hK⟩ : ∃ K : List Ob, K = [⟨lb, 31, #[.int .i64 th, .int .i64 nd]⟩, ⟨jb, 24, #[.int .i64 sh, .int .i64 th, .int .i64 nd, .int .i64 tr, .slice A n cap]⟩] := ⟨_, rfl⟩
 have hKl : (⟨lb, 31, #[.int .i64 th, .int .i64 nd]⟩ : Ob) ∈ K := by rw [hK]; exact List.mem_cons_self ..
 have hKb : ∀ y ∈ K, y.b < wb := fun y hy => by rw [hK] at hy; simp only [List.mem_cons, List.not_mem_nil, or_false] at hy; rcases hy with rfl | rfl <;> simp only <;> omega
 rw [← hK] at hI
 have hD0 : ∀ v : Nat, v < N → (fun _ => 0 : Nat → Int) v = ld E.M (EgS.init sh tr ops).m ((⟨th, nd⟩ : Ly).desc v) := fun v hv => by unfold ld EgS.init; simp
 have HD := Lib.hid hD0
 have hlay := hj.cfg.lay
 clear hK hD0 hwb hlb hN hwb2
 go_loopw [28] (fun i wr => ∃ k : Nat, k ≤ m ∧ i = .int .i64 k ∧ ∃ e was, TpI w b E e (⟨wb, 34, wordsA N was⟩ :: K) wr ∧ Hid (∀ v : Nat, v < N → was v = ld E.M e.m ((⟨th, nd⟩ : Ly).desc v))) (fun i _ => m - (intOf i).toNat)
 case atStart => exact ⟨0, by omega, rfl, _, _, hI, HD⟩
 case round =>
  clear hI HD
  obtain ⟨k, hk, rfl, e, was, hI, HD⟩ := hrel
  by_cases hlt : k < m
  ·have dk : decide ((k : Int) < (m : Int)) = true := decide_eq_true (by omega)
   obtain ⟨p, hp⟩ : ∃ p, ps[k]? = some p := ⟨_, List.getElem?_eq_getElem (by omega)⟩
   have hlw := hl.below (hI.bel.mono hB)
   have hix := hlw.idx (P := Tryz.prog) (c := cl) Tryz.underlying25 pkiSz hlt
   obtain ⟨f1, f2⟩ := pki_at hlw hlt hp
   obtain ⟨u, tm⟩ := p
   simp only at f1 f2
   clear hlw hp
   go_wp2_with fail
   have hI2 := (hI.alloc 39 #[.int .i64 u, .int .i64 tm] (by decide)).swap
   obtain ⟨pb, hpb⟩ : ∃ pb, wr.heap.size = pb := ⟨_, rfl⟩
   have hpw : wb < pb := by rw [← hpb]; exact (hI.blk (List.mem_cons_self ..)).lt
   generalize wr.alloc (.cells #[.int .i64 u, .int .i64 tm] 39) = w7 at *
   simp only [hpb] at hI2 ⊢
   clear hI f1 f2 hix hpb
   go_loopw [10] (fun x wi => ∃ (i : Nat) (e2 : EgS) (was2 : Nat → Int), i ≤ 300 ∧ x = .int .i64 i ∧ TpI w b E e2 (⟨wb, 34, wordsA N was2⟩ :: ⟨pb, 39, #[.int .i64 u, .int .i64 tm]⟩ :: K) wi ∧ Hid (∀ v : Nat, v < N → was2 v = ld E.M e2.m ((⟨th, nd⟩ : Ly).desc v))) (fun x _ => 300 - (intOf x).toNat)
   case atStart => exact ⟨0, _, _, by omega, rfl, hI2, HD⟩
   case round =>
    clear hI2 HD was e
    obtain ⟨i, e, was, hi3, rfl, hI, HD⟩ := hrel
    have hpc := (hI.blk (List.mem_cons_of_mem _ (List.mem_cons_self ..))).cells
    by_cases htm : (i : Int) < tm ∧ i < 300
    ·have d1 : decide ((i : Int) < tm) = true := decide_eq_true htm.1
     have d2 : decide ((i : Int) < 300) = true := decide_eq_true (by omega)
     go_wp2_with fail
     refine (tp_pick hI u).mono ?_
     rintro r w8 ⟨rfl, hI8⟩
     clear hpc
     by_cases hcan : e.can E.M u = true
     ·rw [hcan]
      have hrl := (hI.ok.pick u).2 hcan
      have hrg := hI.ok.mem.rng
      have hrg2 := hI8.ok.mem.rng
      have hmu := congrArg (fun l : Ly => l.th) hEL
      obtain ⟨e3, he3⟩ : ∃ e3, e.pick E.M u = e3 := ⟨_, rfl⟩
      rw [he3] at hI8 hrl hrg2
      clear hI hcan he3
      go_wp2_with fail
      go_loopw [50] (fun y wj => ∃ (v : Nat) (was2 : Nat → Int), v ≤ N ∧ y = .int .i64 v ∧ TpI w b E e3 (⟨wb, 34, wordsA N was2⟩ :: ⟨pb, 39, #[.int .i64 u, .int .i64 tm]⟩ :: K) wj ∧ Hid (∀ x : Nat, x < N → was2 x = if x < v then ld E.M e3.m ((⟨th, nd⟩ : Ly).desc x) else ld E.M e.m ((⟨th, nd⟩ : Ly).desc x))) (fun y _ => N - (intOf y).toNat)
      case atStart => exact ⟨0, _, by omega, rfl, hI8, Lib.hid (fun x hx => by rw [if_neg (by omega)]; exact HD.out x hx)⟩
      case round =>
       clear hI8 HD was
       obtain ⟨v, was2, hvN, rfl, hI, HD⟩ := hrel
       by_cases hv : v < N
       ·have dv : decide ((v : Int) < (N : Int)) = true := decide_eq_true (by omega)
        have hlc := (hI.blk (x := ⟨lb, 31, #[.int .i64 th, .int .i64 nd]⟩) (List.mem_cons_of_mem _ (List.mem_cons_of_mem _ hKl))).cells
        go_wp2_with fail
        refine (lay_Desc ⟨th, nd⟩ hlay v (by omega) _).mono ?_
        rintro r w9 ⟨rfl, hb9⟩
        replace hI := hI.step hb9
        clear hlc hb9
        go_wp2_with fail
        refine (tp_peek hI _).mono ?_
        rintro r w' ⟨rfl, rfl⟩
        have hwas : was2 v = ld E.M e.m ((⟨th, nd⟩ : Ly).desc v) := by rw [HD.out v hv, if_neg (by omega)]
        have hr1 := ld_rngP (M := E.M) hrg ((⟨th, nd⟩ : Ly).desc v)
        have hr2 := ld_rngP (M := E.M) hrg2 ((⟨th, nd⟩ : Ly).desc v)
        have hpath : ld E.M e3.m ((⟨th, nd⟩ : Ly).desc v) ≠ was2 v → PathOk (getD' (was2 v)) (getD' (ld E.M e3.m ((⟨th, nd⟩ : Ly).desc v))) ((v : Int) == u) := fun hne => by
         have := rel_path hrl (v := (v : Int)) ⟨by omega, by rw [hmu]; omega⟩
         rw [hEL] at this
         rw [hwas] at hne ⊢
         exact this hne
        rw [← hwas] at hr1
        obtain ⟨x, hx⟩ : ∃ x, ld E.M e3.m ((⟨th, nd⟩ : Ly).desc v) = x := ⟨_, rfl⟩
        rw [hx] at hr2 hpath
        simp only [hx]
        have hwc : w9.cell? ⟨wb, v, none⟩ = some (.int .u64 (was2 v)) := by rw [(hI.blk (List.mem_cons_self ..)).cell]; exact wordsA_at was2 hv
        obtain ⟨y, hy⟩ : ∃ y, was2 v = y := ⟨_, rfl⟩
        rw [hy] at hr1 hpath hwc
        have hwi := words_idx (wb := wb) hv
        have HX := Lib.hid hx
        have HP := Lib.hid hpath
        clear hx hy hwas hpath
        have hpb := hI.blk (List.mem_cons_of_mem _ (List.mem_cons_self ..))
        have q1 := Later.cell (B := w9.heap.size) hwc (hI.blk (List.mem_cons_self ..)).lt
        have q2 := Later.cells (B := w9.heap.size) hpb hpb.lt
        go_wp2_with fail
        by_cases hxy : x = y
        ·have dn : (x != y) = false := by simp [hxy]
         refine wp_region_ph (fun w' => ∃ q : Later w9.heap.size w9, w' = q.val) 18 [] [0, 1, 2, 3, 4, 5, 6, 7, 8, 9, 10, 12, 14, 15, 16, 17] [11, 13, 18, 19, 20] (by kernel_rfl) (by kernel_rfl) (Later.mk_ (Below.refl _ _).drew) ?_
         refine wpPh_nil ?_
         try simp only [opsAt, List.map_cons, List.map_nil, List.getD_cons_zero, List.getD_cons_succ]
         repeat (go_big_quiet_step (fail))
         refine wpQuiet_nil ?_
         refine wpTail_early rfl (fun K' hK' => ?_)
         go_simp
         refine hK' _ _ (Later.mk_ (Below.refl _ _).drew) ?_
         clear hK' K'
         refine wpTail_early rfl (fun K' hK' => ?_)
         go_simp
         refine hK' _ _ (Later.mk_ (Below.refl _ _).drew) ?_
         clear hK' K'
         refine wpTail_late _ _ _ (by kernel_rfl) ?_
         try simp only [opsAt, List.map_cons, List.map_nil, List.getD_cons_zero, List.getD_cons_succ]
         clear q1 q2
         go_wp2_with fail
         replace hI := hI.step (Below.refl w9.heap.size w9).drew
         have hwb4 := hI.blk (List.mem_cons_self ..)
         have hcw := hwb4.cells
         have hfw := hwb4.frees
         have hwc2 : w9.drew.cell? ⟨wb, v, none⟩ = some (.int .u64 (was2 v)) := by rw [hwb4.cell]; exact wordsA_at was2 hv
         clear hcw hwc hpb
         refine NoPanic.normal ?_
         go_wp2_with fail
         have hI2 := hI.set (x := ⟨wb, 34, wordsA N was2⟩) (fun z hz => by
          rcases List.mem_cons.1 hz with rfl | hz
          ·simp only; omega
          ·have := hKb z hz; simp only; omega) v (.int .u64 y)
         simp only [wordsA_set] at hI2
         go_roundw
         case rel => exact ⟨v + 1, _, by omega, by go_num, hI2, Lib.hid (fun z hz => by
          by_cases e : z = v
          ·subst e; rw [upd_same, if_pos (by omega), HX.out, hxy]
          ·rw [upd_other _ _ e, HD.out z hz]
           by_cases e2 : z < v
           ·rw [if_pos e2, if_pos (by omega)]
           ·rw [if_neg e2, if_neg (by omega)])⟩
         case measure => simp [intOf] <;> omega
        ·have dn : (x != y) = true := by simp [hxy]
         refine wp_region_ph (fun w' => ∃ q : Later w9.heap.size w9, w' = q.val) 18 [] [0, 1, 2, 3, 4, 5, 6, 7, 8, 9, 10, 12, 14, 15, 16, 17] [11, 13, 18, 19, 20] (by kernel_rfl) (by kernel_rfl) (Later.mk_ (Below.refl _ _).drew) ?_
         refine wpPh_nil ?_
         try simp only [opsAt, List.map_cons, List.map_nil, List.getD_cons_zero, List.getD_cons_succ]
         repeat (go_big_quiet_step (fail))
         refine wpQuiet_nil ?_
         refine wpTail_early rfl (fun K' hK' => ?_)
         go_simp
         ((with_reducible refine (ref10_UnD y _ hr1).mono ?_); rintro r w10 ⟨rfl, hb10⟩)
         have hbx : Below w9.heap.size w9 w10 := (Below.refl _ _).drew.trans hb10
         refine hK' _ _ (Later.mk_ hbx) ?_
         clear hK' K'
         refine wpTail_early rfl (fun K' hK' => ?_)
         go_simp
         ((with_reducible refine (ref10_UnD x _ hr2).mono ?_); rintro r w11 ⟨rfl, hb11⟩)
         have hby : Below w9.heap.size w9 w11 := hbx.trans (hb11.mono hbx.size)
         refine hK' _ _ (Later.mk_ hby) ?_
         clear hK' K'
         refine wpTail_late _ _ _ (by kernel_rfl) ?_
         try simp only [opsAt, List.map_cons, List.map_nil, List.getD_cons_zero, List.getD_cons_succ]
         clear q1 q2
         go_wp2_with fail
         refine (top_path (getD_fit y) (HP.out hxy) _).mono ?_
         rintro r w12 ⟨rfl, hb12⟩
         have hbz : Below w9.heap.size w9 w12 := hby.trans (hb12.mono hby.size)
         clear hb10 hb11 hb12
         go_wp2_with fail
         replace hI := hI.step hbz
         have hwb4 := hI.blk (List.mem_cons_self ..)
         have hcw := hwb4.cells
         have hfw := hwb4.frees
         have hwc2 : w12.cell? ⟨wb, v, none⟩ = some (.int .u64 (was2 v)) := by rw [hwb4.cell]; exact wordsA_at was2 hv
         clear hcw hwc hpb
         refine NoPanic.normal ?_
         go_wp2_with fail
         have hI2 := hI.set (x := ⟨wb, 34, wordsA N was2⟩) (fun z hz => by
          rcases List.mem_cons.1 hz with rfl | hz
          ·simp only; omega
          ·have := hKb z hz; simp only; omega) v (.int .u64 x)
         simp only [wordsA_set] at hI2
         go_roundw
         case rel => exact ⟨v + 1, _, by omega, by go_num, hI2, Lib.hid (fun z hz => by
          by_cases e : z = v
          ·subst e; rw [upd_same, if_pos (by omega), HX.out]
          ·rw [upd_other _ _ e, HD.out z hz]
           by_cases e2 : z < v
           ·rw [if_pos e2, if_pos (by omega)]
           ·rw [if_neg e2, if_neg (by omega)])⟩
         case measure => simp [intOf] <;> omega
       ·have dv : decide ((v : Int) < (N : Int)) = false := decide_eq_false (by omega)
        obtain rfl : v = N := by omega
        go_wp2_with fail
        go_roundw
        case rel => exact ⟨i + 1, _, _, by omega, by go_num, hI, Lib.hid (fun x hx => by rw [HD.out x hx, if_pos hx])⟩
        case measure => simp [intOf] <;> omega
     ·have hcf : e.can E.M u = false := by simpa using hcan
      rw [hcf]
      rw [show e.pick E.M u = e by unfold EgS.pick; rw [hcf]; rfl] at hI8
      have hI9 := hI8.swap.drop
      clear hI hI8 hcan hcf
      go_wp2_with fail
      go_roundw
      case rel => exact ⟨k + 1, by omega, by go_num, _, _, hI9, HD⟩
      case measure => simp [intOf] <;> omega
    ·have hI9 := hI.swap.drop
     by_cases d1 : (i : Int) < tm
     ·have d1' : decide ((i : Int) < tm) = true := decide_eq_true d1
      have d2 : decide ((i : Int) < 300) = false := decide_eq_false (by omega)
      clear htm d1 hI
      go_wp2_with fail
      go_roundw
      case rel => exact ⟨k + 1, by omega, by go_num, _, _, hI9, HD⟩
      case measure => simp [intOf] <;> omega
     ·have d1' : decide ((i : Int) < tm) = false := decide_eq_false d1
      clear htm d1 hI
      go_wp2_with fail
      go_roundw
      case rel => exact ⟨k + 1, by omega, by go_num, _, _, hI9, HD⟩
      case measure => simp [intOf] <;> omega
  ·have dk : decide ((k : Int) < (m : Int)) = false := decide_eq_false (by omega)
   have hbel := hI.bel
   go_wp2_with fail
   go_ret
   exact ⟨rfl, hbel⟩
open Go Go.RowKit Go.ChangeShapes Go.WideShapes Go.ChangeAt Go.Deep
theorem rows_pkis : ∀ rows : List (List Value), (∀ r ∈ rows, Rowed [some .i64, some .i64] r) → ∃ ps : List Pki, ps.length = rows.length ∧ rows.flatten = ps.flatMap Pki.cells
 | [], _ => ⟨[], rfl, rfl⟩
 | r :: rows, h => by
  obtain ⟨a, b, rfl⟩ := (h r (List.mem_cons_self ..)).two
  obtain ⟨ps, h1, h2⟩ := rows_pkis rows (fun x hx => h x (List.mem_cons_of_mem _ hx))
  exact ⟨⟨a, b⟩ :: ps, by simp [h1], by simp [h2, Pki.cells]⟩
section
variable {H : Type} {enc : TypeId × Value → H} {w : World} {base : Nat} {held : Bool}
theorem open_lists {v : Value} {A : Option Addr} {n cap : Nat} {d : DataW H} {ps : List MemPlace} (hv : v = .slice A n cap)
  (h : DataW.Trod enc Tryz.prog w base (fun _ => true) held 22 v d ps) : ∃ ops, OpsAt w w.heap.size A n ops := by
 subst hv
 obtain ⟨fuel, hf⟩ := h
 rcases open_slice Tryz.underlying22 hf with ⟨hcs, _⟩ | ⟨a, l, c, m, k, D, Pl, hcs, hb, hl, hm, hmm, hx, hi⟩
 ·simp [Value.cells] at hcs
  obtain ⟨rfl, rfl, rfl⟩ := hcs
  exact ⟨[], rfl, [], Sl.nil_ _ _ _, fun i l hl => by simp at hl⟩
 ·simp [Value.cells] at hcs
  obtain ⟨rfl, rfl, rfl⟩ := hcs
  rw [show Tryz.prog.cellsOf 52 = 1 by kernel_rfl] at hi hx
  have hml : n ≤ m := by rw [hmm]; exact hl
  have hrow : ∀ i, i < n → ∃ (l : List Opn) (A' : Option Addr) (c' : Nat), w.cell? (a.add i) = some (.slice A' l.length c') ∧ Sl w w.heap.size 2 A' l.length (l.flatMap Opn.cells) := fun i hil => by
   obtain ⟨cs', h1, h2⟩ := hi i (by omega)
   rw [Nat.mul_one] at h1
   obtain ⟨_, hcl, hat⟩ := World.cells?_some h1
   have hc0 := hat 0 (by omega)
   have hsl : ∃ A' n' c', cs' = [.slice A' n' c'] := by
    rcases open_slice Tryz.underlying52 h2 with ⟨e, _⟩ | ⟨a2, l2, c2, _, _, _, _, e, _⟩
    ·exact ⟨none, 0, 0, e⟩
    ·exact ⟨some a2, l2, c2, e⟩
   obtain ⟨A', n', c', rfl⟩ := hsl
   obtain ⟨rows, rl, rk, sl, -, -⟩ := open_rows (f := 6) (sz := 2) (ks := [some .i64, some .i64]) (A := A') (len := n') (cap := c') Tryz.underlying52 (by kernel_rfl) (by kernel_rfl) (by omega) ⟨_, h2⟩ (DataW.trod_lt _ _ _ _ h2)
   obtain ⟨ops, ho1, ho2⟩ := rows_opns rows rk
   rw [ho2] at sl
   have hln : ops.length = n' := ho1.trans rl
   subst hln
   exact ⟨ops, A', c', by simpa [Addr.add] using hc0, sl⟩
  obtain ⟨R, hR⟩ : ∃ R : Nat → List Opn × Option Addr × Nat, ∀ i, i < n → w.cell? (a.add i) = some (.slice (R i).2.1 (R i).1.length (R i).2.2) ∧ Sl w w.heap.size 2 (R i).2.1 (R i).1.length ((R i).1.flatMap Opn.cells) := by
   refine ⟨fun i => if h : i < n then ⟨(hrow i h).choose, (hrow i h).choose_spec.choose, (hrow i h).choose_spec.choose_spec.choose⟩ else ⟨[], none, 0⟩, fun i hil => ?_⟩
   simp only [hil, dif_pos]
   exact (hrow i hil).choose_spec.choose_spec.choose_spec
  have hpl : 0 < n → a.block < w.heap.size ∧ a.spot = none := fun h0 => by
   obtain ⟨h1, _⟩ := hR 0 h0
   have h6 : a.add 0 = a := by simp [Addr.add]
   rw [h6] at h1
   refine ⟨World.block_lt_of_cell? w a h1, ?_⟩
   unfold World.cell? at h1
   cases hs : a.spot with
   | none => rfl
   | some x => rw [hs] at h1; split at h1 <;> simp at h1
  have hadd : 0 < n → ∀ j, a.add j = ⟨ablk (some a), aoff (some a) + j, none⟩ := fun h0 j => by
   obtain ⟨_, hsp⟩ := hpl h0
   obtain ⟨b, o, sp⟩ := a
   simp only at hsp
   subst hsp
   unfold Addr.add
   split
   ·rename_i h; subst h; simp [ablk, aoff]
   ·simp [ablk, aoff]
  refine ⟨(List.range n).map (fun i => (R i).1), by simp, (List.range n).map (fun i => .slice (R i).2.1 (R i).1.length (R i).2.2), ⟨by simp, fun h0 => ?_, fun h0 => ?_, fun j hj => ?_⟩, fun i l hl => ?_⟩
  ·have := hadd h0 0
   rw [show a.add 0 = a by simp [Addr.add]] at this
   simpa using this
  ·simpa [ablk] using (hpl h0).1
  ·have hj' : j < n := by simpa using hj
   rw [← hadd (by omega) j, (hR j hj').1]
   simp [hj']
  ·rw [List.getElem?_map] at hl
   obtain ⟨i', hi', e⟩ := Option.map_eq_some_iff.1 hl
   have hin : i < n := by simpa using (List.getElem?_eq_some_iff.1 hi').1
   rw [List.getElem?_range hin] at hi'
   injection hi' with hi'
   subst hi' e
   exact ⟨(R i).2.1, (R i).1.length, (R i).2.2, by rw [List.getElem?_map, List.getElem?_range hin]; rfl, (hR i hin).2, rfl⟩
theorem open_job {r : Reach} {b0 : Nat} {v : Value} {d : DataW H} {ps : List MemPlace} (hw : Value.okWide Tryz.prog w r b0 24 v)
  (h : DataW.Trod enc Tryz.prog w base (fun _ => true) held 24 v d ps) : ∃ (sh th nd tr : Int) (A : Option Addr) (n cap : Nat) (ops : List (List Opn)), v = .agg #[.int .i64 sh, .int .i64 th, .int .i64 nd, .int .i64 tr, .slice A n cap] ∧ OpsAt w w.heap.size A n ops := by
 obtain ⟨cs, rfl, hsz⟩ := okWide_struct Tryz.underlying24 hw
 rw [show Tryz.prog.cellsOf 24 = 5 by kernel_rfl] at hsz
 obtain ⟨c0, c1, c2, c3, c4, rfl⟩ : ∃ c0 c1 c2 c3 c4, cs = #[c0, c1, c2, c3, c4] := by
  obtain ⟨l⟩ := cs
  match l, hsz with
  | [a, b, c, d, e], _ => exact ⟨a, b, c, d, e, rfl⟩
 obtain ⟨fuel, hf⟩ := h
 obtain ⟨xs, m, -, -, -, hxl, hfs⟩ := DataW.trod_struct Tryz.underlying24 hf
 have hxl5 : xs.length = 5 := hxl
 have get : ∀ i, i < 5 → ∃ x, xs[i]? = some x := fun i hi => ⟨_, List.getElem?_eq_getElem (by omega)⟩
 have h0 := hfs 0 _ rfl
 have h1 := hfs 1 _ rfl
 have h2 := hfs 2 _ rfl
 have h3 := hfs 3 _ rfl
 have h4 := hfs 4 _ rfl
 obtain ⟨x0, e0⟩ := get 0 (by omega)
 obtain ⟨x1, e1⟩ := get 1 (by omega)
 obtain ⟨x2, e2⟩ := get 2 (by omega)
 obtain ⟨x3, e3⟩ := get 3 (by omega)
 obtain ⟨x4, e4⟩ := get 4 (by omega)
 rw [e0] at h0
 rw [e1] at h1
 rw [e2] at h2
 rw [e3] at h3
 rw [e4] at h4
 replace h0 : DataW.trod enc Tryz.prog w base (fun _ => true) held m 3 (([c0, c1, c2, c3, c4].drop 0).take (Tryz.prog.cellsOf 3)) = some x0 := h0
 rw [show Tryz.prog.cellsOf 3 = 1 by kernel_rfl] at h0
 replace h1 : DataW.trod enc Tryz.prog w base (fun _ => true) held m 3 (([c0, c1, c2, c3, c4].drop 1).take (Tryz.prog.cellsOf 3)) = some x1 := h1
 rw [show Tryz.prog.cellsOf 3 = 1 by kernel_rfl] at h1
 replace h2 : DataW.trod enc Tryz.prog w base (fun _ => true) held m 3 (([c0, c1, c2, c3, c4].drop 2).take (Tryz.prog.cellsOf 3)) = some x2 := h2
 rw [show Tryz.prog.cellsOf 3 = 1 by kernel_rfl] at h2
 replace h3 : DataW.trod enc Tryz.prog w base (fun _ => true) held m 3 (([c0, c1, c2, c3, c4].drop 3).take (Tryz.prog.cellsOf 3)) = some x3 := h3
 rw [show Tryz.prog.cellsOf 3 = 1 by kernel_rfl] at h3
 replace h4 : DataW.trod enc Tryz.prog w base (fun _ => true) held m 22 (([c0, c1, c2, c3, c4].drop 4).take (Tryz.prog.cellsOf 22)) = some x4 := h4
 rw [show Tryz.prog.cellsOf 22 = 1 by kernel_rfl] at h4
 simp only [List.drop_succ_cons, List.drop_zero, List.take_succ_cons, List.take_zero] at h0 h1 h2 h3 h4
 obtain ⟨sh, i0, -⟩ := DataW.trod_int Tryz.underlying3 h0
 obtain ⟨th, i1, -⟩ := DataW.trod_int Tryz.underlying3 h1
 obtain ⟨nd, i2, -⟩ := DataW.trod_int Tryz.underlying3 h2
 obtain ⟨tr, i3, -⟩ := DataW.trod_int Tryz.underlying3 h3
 have hsl : ∃ A n c, c4 = .slice A n c := by
  rcases open_slice Tryz.underlying22 h4 with ⟨e, _⟩ | ⟨a2, l2, cc, _, _, _, _, e, _⟩
  ·exact ⟨none, 0, 0, by simpa using e⟩
  ·exact ⟨some a2, l2, cc, by simpa using e⟩
 obtain ⟨A, n, c, rfl⟩ := hsl
 obtain ⟨ops, ho⟩ := open_lists (enc := enc) (held := held) (base := base) (d := x4.1) (ps := x4.2) rfl ⟨m, h4⟩
 refine ⟨sh, th, nd, tr, A, n, c, ops, ?_, ho⟩
 injection i0 with i0 _
 injection i1 with i1 _
 injection i2 with i2 _
 injection i3 with i3 _
 rw [i0, i1, i2, i3]
end
end Go.Proofs.YtbcnnhlpilmmbaaGreat
