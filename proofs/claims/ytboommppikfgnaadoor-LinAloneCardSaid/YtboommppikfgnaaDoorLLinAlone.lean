/- The law LinAlone, walked.
   Conditions: the table of powers of ten lies as laid. -/
import Derived.Test.YtboommppikfgnaaDoorLinAwake
import Derived.Test.YtboommppikfgnaaDoorLinAl
namespace Go.Proofs.YtboommppikfgnaaDoor
open Go Go.RowKit

theorem cost_one' : ∀ u : Nat, cost 1 u = u + 1
  | 0 => rfl
  | u + 1 => by simp only [cost, cost_one' u]; omega
theorem info_Op : (Tryd.prog.info? 43).map (fun i => (i.zero, i.size, i.bytes)) = some (some (.agg #[.int .i64 0, .int .i64 0]), 2, 16) := by kernel_rfl
theorem refRes_code (sh : Int) (did : List Opn) (o : Opn) : (refRes sh did o).code = 0 := by
  unfold refRes
  split
  · rfl
  · split
    · rfl
    · split
      · rfl
      · split <;> rfl
theorem Opn.one_cell (o : Opn) : ∀ u ∈ o.cells, u.oneCell' = true := Opn.cells_one o

set_option maxRecDepth 100000 in
set_option maxHeartbeats 8000000 in
theorem law_LinAlone (shape : Int) (A1 A2 : Option Addr) (n n2 c1 c2 : Nat) (las : List La) (rs : List Rsl) (w : World) (hs : 0 ≤ shape ∧ shape ≤ 255) (hl : Sl w w.heap.size 5 A1 n (las.flatMap La.cells)) (hr : Sl w w.heap.size 3 A2 n2 (rs.flatMap Rsl.cells)) (hn : las.length = n) (hn2 : rs.length = n2)
    (htab : ∀ w', Below w.heap.size w w' → Lib.TabIs Tryd.prog w' "internal/strconv.uint64pow10" .u64 Lib.pow10Tab) :
    Calls Tryd.prog 4 #[.int .u8 shape, .slice A1 n c1, .slice A2 n2 c2] w fun e w' => e = .returned (.bool true) ∧ Below w.heap.size w w' := by
  obtain ⟨iP, hiP, zP, sP, bP⟩ := info_parts info_Op
  have HAW := Lib.hid (lin_awake w htab)
  have HT := Lib.hid htab
  have HN := Lib.hid hn
  have HN2 := Lib.hid hn2
  clear htab hn hn2
  obtain ⟨R, hR⟩ : ∃ R : Int, shape % 4 = R := ⟨_, rfl⟩
  have hR4 : 0 ≤ R ∧ R ≤ 3 := by omega
  have hRt : shape.tmod 4 = R := by rw [Int.tmod_eq_emod_of_nonneg hs.1]; exact hR
  by_cases hbig : 24 < n ∨ n2 < n
  · have hd : (24 : Int) < (n : Int) ∨ (¬ (24 : Int) < (n : Int) ∧ (n2 : Int) < (n : Int)) := by omega
    rcases hd with d | ⟨d, d2⟩
    all_goals
      go_enter Tryd.func4, Tryd.ntmps4
      go_wp2_with fail
      refine HAW.out.mono ?_
      rintro e w1 ⟨rfl, hb1⟩
      go_wp2_with fail
      go_ret
      exact ⟨rfl, hb1⟩
  · have d1 : ¬ (24 : Int) < (n : Int) := by omega
    have d2 : ¬ (n2 : Int) < (n : Int) := by omega
    go_enter Tryd.func4, Tryd.ntmps4
    go_wp2_with fail
    refine HAW.out.mono ?_
    rintro e w1 ⟨rfl, hb1⟩
    go_wp2_with fail
    refine (hist_new w1).mono ?_
    rintro e w2 ⟨rfl, h2, hb2⟩
    have hb02 := hb1.trans (hb2.mono hb1.size)
    obtain ⟨b, hb⟩ : ∃ b, w1.heap.size = b := ⟨_, rfl⟩
    rw [hb] at h2 hb2 ⊢
    have hbw : w.heap.size ≤ b := by rw [← hb]; exact hb1.size
    have hl1 := (hl.step (Nat.le_refl _) hb1).more hbw
    have hr1 := (hr.step (Nat.le_refl _) hb1).more hbw
    obtain ⟨K, hK⟩ : ∃ K, 1 + R = K := ⟨_, rfl⟩
    rw [hK]
    have hK4 : 1 ≤ K ∧ K ≤ 4 := by omega
    have HB := Lib.hid hb
    clear hb
    obtain ⟨lps, hlps⟩ : ∃ lps, lpsL las rs = lps := ⟨_, rfl⟩
    have hlpl : lps.length = n := by
      rw [← hlps]; unfold lpsL; rw [List.length_zipWith, HN.out, HN2.out]; omega
    have hlpa : ∀ (k : Nat) (x : La) (r : Rsl), las[k]? = some x → rs[k]? = some r → lps[k]? = some (lpOf x r) := fun k x r hx hr' => by
      rw [← hlps]; unfold lpsL; rw [List.getElem?_zipWith, hx, hr']
    have HLPA := Lib.hid hlpa
    have HLPL := Lib.hid hlpl
    clear hlpa hlpl hlps hK
    have hbs2 : b ≤ w2.heap.size := by have := hb2.size; have := HB.out; omega
    go_wp2_with fail
    go_loopw [9, 10, 32] (fun dv rv i wr => ∃ (j : Nat) (s : HS), j ≤ n ∧ i = .int .i64 j ∧ LapsOk (lps.take j) s ∧ (∀ x ∈ lps.take j, may K ⟨x.kind, x.key⟩ = true) ∧ HAt wr b b s ∧ wr.ownsRow b 43 2 dv (stA K (lps.take j)).1.length ((stA K (lps.take j)).1.flatMap Opn.cells) ∧ rv = .bool (stA K (lps.take j)).2 ∧ Below b w1 wr ∧ b ≤ wr.heap.size) (fun _ _ i _ => n - (intOf i).toNat)
    case atStart => exact ⟨0, HS.new, by omega, rfl, laps_new, (fun x hx => by cases hx), h2, World.ownsRow_nil _ _ _ _, rfl, hb2, hbs2⟩
    case round =>
      obtain ⟨j, s, hj, rfl, hlp, hma, hh, hown, rfl, hbr, hbs⟩ := hrel
      have hbw1 : Below w.heap.size w wr := hb1.trans (hbr.mono hbw)
      obtain ⟨Ad, cd, rfl, hcd, -, -⟩ := own_form hown
      by_cases hlt : j < n
      · obtain ⟨x, hx⟩ : ∃ x, las[j]? = some x := ⟨_, List.getElem?_eq_getElem (by rw [HN.out]; exact hlt)⟩
        obtain ⟨r, hrr⟩ : ∃ r, rs[j]? = some r := ⟨_, List.getElem?_eq_getElem (by rw [HN2.out]; omega)⟩
        have hlr := hl1.below hbr
        have hrr1 := hr1.below hbr
        have hidx := hlr.idx (P := Tryd.prog) (c := c1) Tryd.underlying38 laSz hlt
        obtain ⟨f0, f1, f2, f3, f4⟩ := la_cells hlr hlt hx
        have hlpj := HLPA.out j x r hx hrr
        have htk := take_one lps j _ hlpj
        have hst := stA_snoc K (lps.take j) (lpOf x r)
        rw [← htk] at hst
        obtain ⟨m, hmm⟩ : ∃ m, may K ⟨x.kind, x.key⟩ = m := ⟨_, rfl⟩
        have hrm := fun W => ref_May K ⟨x.kind, x.key⟩ W
        rw [hmm] at hrm
        have HMM := Lib.hid hmm
        have HTK := Lib.hid htk
        have HST := Lib.hid hst
        have HRM := Lib.hid hrm
        clear hx htk hst hrm hmm hlpj
        have hrr0 := hrr
        go_upto_region 12 with (fail)
        have hb3 : Below wr.heap.size wr (wr.alloc (.cells #[.int .i64 x.kind, .int .i64 x.key, .int .i64 x.th, .int .u8 x.ahead, .int .u8 x.later] 45)) := (Below.refl _ _).alloc (Nat.le_refl _) _
        have hxb := Blk.new wr 45 #[.int .i64 x.kind, .int .i64 x.key, .int .i64 x.th, .int .u8 x.ahead, .int .u8 x.later]
        clear hidx f0 f1 f2 f3 f4
        obtain ⟨X, hX⟩ : ∃ X, wr.heap.size = X := ⟨_, rfl⟩
        generalize (wr.alloc (.cells #[.int .i64 x.kind, .int .i64 x.key, .int .i64 x.th, .int .u8 x.ahead, .int .u8 x.later] 45)) = w3 at *
        rw [hX] at hxb
        have hc3 := hxb.cells
        go_wp2_with fail
        refine (HRM.out w3).mono ?_
        rintro e w4 ⟨rfl, hb4⟩
        have hb34 := hb3.trans (hb4.mono hb3.size)
        have hxb4 := hxb.step hb4
        have hh4 := hh.step hb34
        have hown4 := own_step hown hb34
        have hb14 := hbr.trans (hb34.mono hbs)
        have hbs4 : b ≤ w4.heap.size := Nat.le_trans hbs hb34.size
        cases m
        · go_wp2_with fail
          go_ret
          exact ⟨rfl, hbw1.trans (hb34.mono hbw1.size)⟩
        · have hc4 := hxb4.cells
          clear hc3
          obtain ⟨T, hT⟩ : ∃ T, bits .and .i64 x.th 7 = T := ⟨_, rfl⟩
          have hT8 := and7 x.th
          rw [hT] at hT8
          obtain ⟨lp, hlp0⟩ : ∃ lp, lpOf x r = lp := ⟨_, rfl⟩
          have hlpth : lp = ⟨T, x.kind, x.key, r.code, r.ok, r.val⟩ := by rw [← hlp0, ← hT]; rfl
          rw [hlp0] at HTK HST
          have hmid := lap_mid hlp lp (by rw [hlpth]; exact hT8)
          have hstep := lap_step hlp lp (by rw [hlpth]; exact hT8)
          obtain ⟨e1, e2, e3⟩ := hmid
          have hevj := hlp.evs
          have hlj : (lps.take j).length = j := by rw [List.length_take, HLPL.out]; omega
          rw [hlj] at e3 hevj
          rw [← HTK.out] at hstep
          have hlap : s.lap lp = (s.begin_ T x.kind x.key).end_ T r.code r.ok r.val := by rw [hlpth]; rfl
          rw [hlpth] at e1 e2 e3
          simp only at e1 e2 e3
          obtain ⟨s1, hs1⟩ : ∃ s1, s.begin_ T x.kind x.key = s1 := ⟨_, rfl⟩
          rw [hs1] at e2 e3 hlap
          have hbg := fun W (hW : HAt W b b s) (hb' : b ≤ W.heap.size) => hist_begin b s b T x.kind x.key W hW hb' (by omega)
          rw [e1, hs1] at hbg
          have hen := fun W (hW : HAt W b b s1) (hb' : b ≤ W.heap.size) => hist_end b s1 b T r.code r.ok r.val W hW hb' (by omega)
          rw [e2, ← hlap] at hen
          have hqx : ∀ (q : Such (Kp b [83, 64, 88] w4)) (i : Nat), q.val.cell? ⟨X, i, none⟩ = (#[.int .i64 x.kind, .int .i64 x.key, .int .i64 x.th, .int .u8 x.ahead, .int .u8 x.later] : Array Value)[i]? := fun q i => (hxb4.kp q.ok (by decide)).cell i
          have hjn2 : j < n2 := by omega
          have hidr := hrr1.idx (P := Tryd.prog) (c := c2) Tryd.underlying39 resSz hjn2
          have hq0 : ∀ q : Such (Kp b [83, 64, 88] w4), q.val.cell? ⟨ablk A2, aoff A2 + j * 3, none⟩ = some (.int .i64 r.code) := fun q => (res_cells (hr1.below (hb14.trans q.ok.below)) hjn2 hrr).1
          have hq1 : ∀ q : Such (Kp b [83, 64, 88] w4), q.val.cell? ⟨ablk A2, aoff A2 + j * 3 + 1, none⟩ = some (.bool r.ok) := fun q => (res_cells (hr1.below (hb14.trans q.ok.below)) hjn2 hrr).2.1
          have hq2 : ∀ q : Such (Kp b [83, 64, 88] w4), q.val.cell? ⟨ablk A2, aoff A2 + j * 3 + 2, none⟩ = some (.int .i64 r.val) := fun q => (res_cells (hr1.below (hb14.trans q.ok.below)) hjn2 hrr).2.2
          have hinh : Nonempty (Such (Kp b [83, 64, 88] w4)) := Such.ne_ (Kp.refl _ _ _)
          have HBG := Lib.hid hbg
          have HEN := Lib.hid hen
          have HSTEP := Lib.hid hstep
          have HLP := Lib.hid hlpth
          have HRR := Lib.hid hrr
          clear hbg hen hstep hlpth e1 e2 e3 hs1 hlap hlp0 hrr hc4
          go_wp2_with fail
          refine wp_region_ph (fun w' => ∃ q : Such (Kp b [83, 64, 88] w4), w' = q.val) 17 [([0, 1, 2, 3, 4, 5], 6)] [7, 8, 9, 10, 11, 12, 13, 14, 15, 16] [17, 18, 19] (by kernel_rfl) (by kernel_rfl) (Such.mk_ (Kp.refl _ _ _).drew) ?_
          refine wpPh_cons ?_
          simp only [opsAt, List.map_cons, List.map_nil, List.getD_cons_zero, List.getD_cons_succ]
          repeat (go_big_quiet_step (fail))
          refine wpQuiet_nil ?_
          refine wpPh_op rfl (fun K' hK' => ?_)
          go_simp
          refine (HBG.out _ hh4.drew hbs4).mono ?_
          rintro e w5 ⟨rfl, hh5, hk5⟩
          have hk45 : Kp b [83, 64, 88] w4 w5 := (Kp.refl _ _ _).drew.trans hk5
          have hbs5 : b ≤ w5.heap.size := Nat.le_trans hbs4 hk45.size
          refine hK' _ _ (Such.mk_ hk45) ?_
          clear hK' K'
          refine wpPh_nil ?_
          repeat (go_big_quiet_step (fail))
          refine wpQuiet_nil ?_
          refine wpTail_late _ _ _ (by kernel_rfl) ?_
          simp only [opsAt, List.map_cons, List.map_nil, List.getD_cons_zero, List.getD_cons_succ]
          go_wp2_with fail
          refine (HEN.out w5 hh5 hbs5).mono ?_
          rintro e w6 ⟨rfl, hh6, hk6⟩
          have hk46 := hk45.trans hk6
          have hbs6 : b ≤ w6.heap.size := Nat.le_trans hbs5 hk6.size
          have hxb6 := hxb4.kp hk46 (by decide)
          have hown6 := own_kp hown4 hk46 (by decide)
          have hb16 := hb14.trans hk46.below
          have hr6 := hr1.below hb16
          obtain ⟨g0, g1, g2⟩ := res_cells hr6 hjn2 HRR.out
          have hx6 := hxb6.cells
          clear hqx hq0 hq1 hq2 hinh hk45 hk46 hk5 hk6 hh5 hh4 hxb4 hown4
          go_wp2_with fail
          refine NoPanic.normal ?_
          have hb0 : r.code = 0 ∨ r.code ≠ 0 := by omega
          have hlj2 : (stA K (lps.take j)).1.length ≤ j := by
            have := stA_len K (lps.take j) ([], true)
            rw [hlj] at this
            unfold stA; simpa using this
          have hma' : ∀ y ∈ lps.take (j + 1), may K ⟨y.kind, y.key⟩ = true := fun y hy => by
            rw [HTK.out] at hy
            rcases List.mem_append.1 hy with hy | hy
            · exact hma y hy
            · obtain rfl : y = lp := by simpa using hy
              rw [HLP.out]; exact HMM.out
          rcases hb0 with h0 | h0
          · have HC0 := Lib.hid h0
            go_wp2_with fail
            obtain ⟨did, hdid⟩ : ∃ did, (stA K (lps.take j)).1 = did := ⟨_, rfl⟩
            obtain ⟨ok, hok⟩ : ∃ ok, (stA K (lps.take j)).2 = ok := ⟨_, rfl⟩
            obtain ⟨RR, hRR⟩ : ∃ RR, refRes K did ⟨x.kind, x.key⟩ = RR := ⟨_, rfl⟩
            have hst2 : stA K (lps.take (j + 1)) = (did ++ [⟨x.kind, x.key⟩], ok && ((RR.code == r.code) && (RR.ok == r.ok) && (RR.val == r.val))) := by
              rw [HST.out]; unfold stStep; rw [HLP.out]
              simp only
              rw [if_pos HC0.out, hdid, hok, hRR]
              rfl
            have hcode : RR.code = 0 := by rw [← hRR]; exact refRes_code _ _ _
            rw [hdid] at hown6 hlj2 hcd ⊢
            rw [hok]
            have hres := fun (W : World) (hW : Sl W W.heap.size 2 Ad did.length (did.flatMap Opn.cells)) => ref_Res (c := cd) K ⟨x.kind, x.key⟩ hW (Nat.le_refl _) rfl (by omega) hcd
            rw [hRR] at hres
            have HRES := Lib.hid hres
            have HST2 := Lib.hid hst2
            have hrc : r.code = RR.code := by rw [hcode]; exact HC0.out
            have harms : ok = false ∨ (ok = true ∧ ¬ r.ok = RR.ok) ∨ (ok = true ∧ r.ok = RR.ok ∧ ¬ r.val = RR.val) ∨ (ok = true ∧ r.ok = RR.ok ∧ r.val = RR.val) := by
              cases ok
              · exact .inl rfl
              · by_cases h1 : r.ok = RR.ok
                · by_cases h2 : r.val = RR.val
                  · exact .inr (.inr (.inr ⟨rfl, h1, h2⟩))
                  · exact .inr (.inr (.inl ⟨rfl, h1, h2⟩))
                · exact .inr (.inl ⟨rfl, h1⟩)
            clear hres hst2 hRR hok hdid hcode hx6
            rcases harms with rfl | ⟨rfl, h1⟩ | ⟨rfl, h1, h2⟩ | ⟨rfl, h1, h2⟩
            case' inl =>
              have hfin : Hid ((stA K (lps.take (j + 1))).2 = false) := Lib.hid (by rw [HST2.out]; rfl)
              have hsd := Sl.of_own hown6
              have q6 := Later.cells (B := w6.heap.size) hxb6 hxb6.lt
              have hbA : ablk A2 < w6.heap.size := by have := hr6.blt (by omega : 0 < n2); omega
              have p0 := Later.cell (B := w6.heap.size) g0 hbA
              have p1 := Later.cell (B := w6.heap.size) g1 hbA
              have p2 := Later.cell (B := w6.heap.size) g2 hbA
              have hbt : b ≤ b := Nat.le_refl _
              refine wp_region_later w6.heap.size (by kernel_rfl) (by kernel_rfl) ?_
              repeat (go_big_quiet_step ((go_at_call 19; exact Later.call (Nat.le_refl _) (HRES.out _ ((hsd.below (Later.below _)).more (Later.below _).size)))))
              refine wpQuiet_nil ?_
              intro w7 hq7
              obtain ⟨q7, hq7⟩ := hq7
              have hb67 : Below w6.heap.size w6 w7 := by rw [hq7]; exact q7.below
              clear hq7 q7 q6 p0 p1 p2 hsd hbA hbt

            case' inr.inl =>
              have hfin : Hid ((stA K (lps.take (j + 1))).2 = false) := Lib.hid (by
                rw [HST2.out]
                have : (RR.ok == r.ok) = false := beq_eq_false_iff_ne.2 (fun e => h1 e.symm)
                simp [this])
              have hsd := Sl.of_own hown6
              have q6 := Later.cells (B := w6.heap.size) hxb6 hxb6.lt
              have hbA : ablk A2 < w6.heap.size := by have := hr6.blt (by omega : 0 < n2); omega
              have p0 := Later.cell (B := w6.heap.size) g0 hbA
              have p1 := Later.cell (B := w6.heap.size) g1 hbA
              have p2 := Later.cell (B := w6.heap.size) g2 hbA
              have hbt : b ≤ b := Nat.le_refl _
              refine wp_region_later w6.heap.size (by kernel_rfl) (by kernel_rfl) ?_
              repeat (go_big_quiet_step ((go_at_call 19; exact Later.call (Nat.le_refl _) (HRES.out _ ((hsd.below (Later.below _)).more (Later.below _).size)))))
              refine wpQuiet_nil ?_
              intro w7 hq7
              obtain ⟨q7, hq7⟩ := hq7
              have hb67 : Below w6.heap.size w6 w7 := by rw [hq7]; exact q7.below
              clear hq7 q7 q6 p0 p1 p2 hsd hbA hbt

            case' inr.inr.inl =>
              have hfin : Hid ((stA K (lps.take (j + 1))).2 = false) := Lib.hid (by
                rw [HST2.out]
                have : (RR.val == r.val) = false := beq_eq_false_iff_ne.2 (fun e => h2 e.symm)
                simp [this])
              have hsd := Sl.of_own hown6
              have q6 := Later.cells (B := w6.heap.size) hxb6 hxb6.lt
              have hbA : ablk A2 < w6.heap.size := by have := hr6.blt (by omega : 0 < n2); omega
              have p0 := Later.cell (B := w6.heap.size) g0 hbA
              have p1 := Later.cell (B := w6.heap.size) g1 hbA
              have p2 := Later.cell (B := w6.heap.size) g2 hbA
              have hbt : b ≤ b := Nat.le_refl _
              refine wp_region_later w6.heap.size (by kernel_rfl) (by kernel_rfl) ?_
              repeat (go_big_quiet_step ((go_at_call 19; exact Later.call (Nat.le_refl _) (HRES.out _ ((hsd.below (Later.below _)).more (Later.below _).size)))))
              refine wpQuiet_nil ?_
              intro w7 hq7
              obtain ⟨q7, hq7⟩ := hq7
              have hb67 : Below w6.heap.size w6 w7 := by rw [hq7]; exact q7.below
              clear hq7 q7 q6 p0 p1 p2 hsd hbA hbt

            case' inr.inr.inr =>
              have hfin : Hid ((stA K (lps.take (j + 1))).2 = true) := Lib.hid (by rw [HST2.out]; simp [hrc, h1, h2])
              have hsd := Sl.of_own hown6
              have q6 := Later.cells (B := w6.heap.size) hxb6 hxb6.lt
              have hbA : ablk A2 < w6.heap.size := by have := hr6.blt (by omega : 0 < n2); omega
              have p0 := Later.cell (B := w6.heap.size) g0 hbA
              have p1 := Later.cell (B := w6.heap.size) g1 hbA
              have p2 := Later.cell (B := w6.heap.size) g2 hbA
              have hbt : b ≤ b := Nat.le_refl _
              refine wp_region_later w6.heap.size (by kernel_rfl) (by kernel_rfl) ?_
              repeat (go_big_quiet_step ((go_at_call 19; exact Later.call (Nat.le_refl _) (HRES.out _ ((hsd.below (Later.below _)).more (Later.below _).size)))))
              refine wpQuiet_nil ?_
              intro w7 hq7
              obtain ⟨q7, hq7⟩ := hq7
              have hb67 : Below w6.heap.size w6 w7 := by rw [hq7]; exact q7.below
              clear hq7 q7 q6 p0 p1 p2 hsd hbA hbt

            all_goals
              have hown7 := own_step hown6 hb67
              have hxb7 := hxb6.step hb67
              have hh7 := hh6.step hb67
              have hb17 := hb16.trans (hb67.mono hbs6)
              have hbs7 : b ≤ w7.heap.size := Nat.le_trans hbs6 hb67.size
              have hx7 := hxb7.cells
              have hown8 := hown7.alloc (.cells #[.int .i64 x.kind, .int .i64 x.key] 43)
              have hdl : did.length ≤ 30 := by omega
              clear g0 g1 g2 hr6 hrr1 hidr
              go_wp2_with (at_builtin; refine wpList_append_lies _ rfl _ _ _ rfl b 43 iP _ 2 16 Tryd.underlying41 hiP zP sP bP rfl (by omega) (.slice Ad did.length cd) did.length (did.flatMap Opn.cells) rfl hown8 ⟨w7.heap.size, 0, none⟩ 1 1 (Opn.cells ⟨x.kind, x.key⟩) rfl rfl (World.news_of_block (heap_alloc_new w7 _)) (Opn.cells_one _) (by omega) (by unfold maxLen; omega) (by omega) (by simp; omega) (w7.heap.size + 1) (by simp) ?_; intro g cap w9 hown9 hgrow hat hlt9)
              have kap : Kp b [43] w7 w9 := ((Kp.refl b [43] w7).alloc hbs7 _).own hown8 (Nat.le_refl _) (by simp; omega) (by decide) hgrow
              have hh9 := hh7.kp kap (by decide) (by decide) (by decide)
              go_roundw
              case rel => exact ⟨j + 1, s.lap lp, by omega, by go_num, HSTEP.out, hma', hh9, by rw [HST2.out]; simpa using hown9, by rw [hfin.out], hb17.trans kap.below, Nat.le_trans hbs7 kap.size⟩
              case measure => simp [intOf]; omega
          · have hb00 : (r.code == 0) = false := beq_eq_false_iff_ne.2 h0
            have hst2 : stA K (lps.take (j + 1)) = stA K (lps.take j) := by
              rw [HST.out]; unfold stStep; rw [HLP.out]; exact if_neg h0
            have HST2 := Lib.hid hst2
            clear hst2
            go_wp2_with fail
            go_roundw
            case rel => exact ⟨j + 1, s.lap lp, by omega, by go_num, HSTEP.out, hma', hh6, by rw [HST2.out]; exact hown6, by rw [HST2.out], hb16, hbs6⟩
            case measure => simp [intOf]; omega
      · obtain rfl : j = n := by omega
        have htk : lps.take j = lps := List.take_of_length_le (by rw [HLPL.out]; omega)
        rw [htk] at hlp hma
        have hpl := alone_plain hK4 hlp hma
        have hseq := laps_seq hlp K hma
        have hln := hlp.len
        have hle := hlp.evs
        rw [HLPL.out] at hln hle
        have hli := lin_linear K hK4 b s b 1 wr hh hlp.good (by omega) (by omega) hseq.branch (by rw [cost_one']; unfold maxLen; omega) (fun w' hb' => HT.out w' (hbw1.trans (hb'.mono hbw1.size))) _ hpl
        rw [htk]
        generalize (stA K lps).2 = ok at *
        go_wp2_with fail
        refine hli.mono ?_
        rintro e w9 ⟨rfl, hb9⟩
        have hbeq : (ok == ok) = true := by cases ok <;> rfl
        go_wp2_with fail
        go_ret
        exact ⟨rfl, hbw1.trans (hb9.mono hbw1.size)⟩
end Go.Proofs.YtboommppikfgnaaDoor
