/- The law LinRuns, walked.
   Conditions: the table of powers of ten lies as laid. -/
import Derived.Test.YtboommppikfgnaaDoorLinAwake
import Derived.Test.YtboommppikfgnaaDoorLinRun
import Derived.Test.YtboommppikfgnaaDoorLinBeh
import Derived.OwnWalk
namespace Go.Proofs.YtboommppikfgnaaDoor
open Go Go.RowKit

theorem cost_eight : ∀ m : Nat, m ≤ 8 → cost 8 m ≤ maxLen := by
  intro m hm
  have : m = 0 ∨ m = 1 ∨ m = 2 ∨ m = 3 ∨ m = 4 ∨ m = 5 ∨ m = 6 ∨ m = 7 ∨ m = 8 := by omega
  rcases this with rfl | rfl | rfl | rfl | rfl | rfl | rfl | rfl | rfl <;> decide
theorem lin_legal_ok (sh : Int) (p : Option Addr) (V : Value) (ok : Bool) (w : World) (h : Calls Tryd.prog 20 #[.int .i64 sh, .pointer p, V] w fun e w' => (∃ v, e = .returned (.tuple #[v, .bool ok])) ∧ Below w.heap.size w w') :
    Calls Tryd.prog 22 #[.int .i64 sh, .pointer p, V] w fun e w' => e = .returned (.bool ok) ∧ Below w.heap.size w w' := by
  go_enter Tryd.func22, Tryd.ntmps22
  go_wp2_with fail
  refine h.mono ?_
  rintro e w1 ⟨⟨v, rfl⟩, hb⟩
  go_wp2_with fail
  go_ret
  exact ⟨rfl, hb⟩
theorem told_ok {w' : World} {e : Ending} {ok : Bool} {items : List Int} (h : BTold w' e ok items) : ∃ v, e = .returned (.tuple #[v, .bool ok]) := by
  cases ok
  · exact ⟨_, h⟩
  · obtain ⟨A, c, he, -⟩ := h; exact ⟨_, he⟩
theorem info_OpR : (Tryd.prog.info? 43).map (fun i => (i.zero, i.size, i.bytes)) = some (some (.agg #[.int .i64 0, .int .i64 0]), 2, 16) := by kernel_rfl
theorem info_intR : (Tryd.prog.info? 3).map (fun i => (i.zero, i.size, i.bytes)) = some (some (.int .i64 0), 1, 8) := by kernel_rfl
theorem made_ids (n : Nat) : (madeCells (Value.int .i64 0).cells (n * 1)).toList = ints (idsL n fun _ => 0) := by
  have : ∀ m : Nat, (madeCells (Value.int .i64 0).cells m).toList = ints (List.replicate m 0) := by
    intro m
    simp only [madeCells, Value.cells, ints]
    refine List.ext_getElem? fun i => ?_
    simp [Nat.mod_one]
    rcases Nat.lt_or_ge i m with h | h
    · simp [h]
    · simp [h]
  rw [Nat.mul_one, this]
  unfold idsL
  congr 1
  refine List.ext_getElem (by simp) fun i h1 h2 => by simp

set_option maxRecDepth 100000 in
set_option maxHeartbeats 8000000 in
theorem law_LinRuns (shape : Int) (A1 : Option Addr) (n c1 : Nat) (las : List La) (w : World) (hs : 0 ≤ shape ∧ shape ≤ 255) (hl : Sl w w.heap.size 5 A1 n (las.flatMap La.cells)) (hn : las.length = n) (hd : Dur las)
    (htab : ∀ w', Below w.heap.size w w' → Lib.TabIs Tryd.prog w' "internal/strconv.uint64pow10" .u64 Lib.pow10Tab) :
    Calls Tryd.prog 6 #[.int .u8 shape, .slice A1 n c1] w fun e w' => e = .returned (.bool true) ∧ Below w.heap.size w w' := by
  obtain ⟨iP, hiP, zP, sP, bP⟩ := info_parts info_OpR
  obtain ⟨iI, hiI, zI, sI, bI⟩ := info_parts info_intR
  have HAW := Lib.hid (lin_awake w htab)
  have HT := Lib.hid htab
  have HN := Lib.hid hn
  have HD := Lib.hid hd
  clear htab hn hd
  obtain ⟨R, hR⟩ : ∃ R : Int, shape % 4 = R := ⟨_, rfl⟩
  have hR4 : 0 ≤ R ∧ R ≤ 3 := by omega
  have hRt : shape.tmod 4 = R := by rw [Int.tmod_eq_emod_of_nonneg hs.1]; exact hR
  by_cases hbig : 8 < n
  · have d : (8 : Int) < (n : Int) := by omega
    go_enter Tryd.func6, Tryd.ntmps6
    go_wp2_with fail
    refine HAW.out.mono ?_
    rintro e w1 ⟨rfl, hb1⟩
    go_wp2_with fail
    go_ret
    exact ⟨rfl, hb1⟩
  · have d1 : ¬ (8 : Int) < (n : Int) := by omega
    have hn8 : n ≤ 8 := by omega
    go_enter Tryd.func6, Tryd.ntmps6
    go_wp2_with fail
    refine HAW.out.mono ?_
    rintro e w1 ⟨rfl, hb1⟩
    obtain ⟨b1, hbs1⟩ : ∃ b1, w1.heap.size = b1 := ⟨_, rfl⟩
    have HB1 := Lib.hid hbs1
    have hbw1 : w.heap.size ≤ b1 := by rw [← hbs1]; exact hb1.size
    have hl1 := (hl.step (Nat.le_refl _) hb1).more hbw1
    clear hbs1
    go_wp2_with fail
    obtain ⟨K, hK⟩ : ∃ K, 1 + R = K := ⟨_, rfl⟩
    rw [hK]
    have hK4 : 1 ≤ K ∧ K ≤ 4 := by omega
    clear hK
    go_loopw [6, 28] (fun ov i wr => ∃ k : Nat, k ≤ n ∧ i = .int .i64 k ∧ (∀ x ∈ las.take k, may K x.op = true) ∧ wr.ownsRow b1 43 2 ov k ((opsA (las.take k)).flatMap Opn.cells) ∧ Below b1 w1 wr ∧ b1 ≤ wr.heap.size) (fun _ i _ => n - (intOf i).toNat)
    case atStart => exact ⟨0, by omega, rfl, (fun x hx => by cases hx), World.ownsRow_nil _ _ _ _, Below.refl _ _, by rw [HB1.out]; exact Nat.le_refl _⟩
    case round =>
      obtain ⟨k, hk, rfl, hma, hown, hbr, hbs⟩ := hrel
      have hb0r : Below w.heap.size w wr := hb1.trans (hbr.mono hbw1)
      obtain ⟨Ad, cd, rfl, hcd, -, -⟩ := own_form hown
      by_cases hlt : k < n
      · obtain ⟨x, hx⟩ : ∃ x, las[k]? = some x := ⟨_, List.getElem?_eq_getElem (by rw [HN.out]; exact hlt)⟩
        have hlr := hl1.below hbr
        have hidx := hlr.idx (P := Tryd.prog) (c := c1) Tryd.underlying38 laSz hlt
        obtain ⟨f0, f1, f2, f3, f4⟩ := la_cells hlr hlt hx
        have htk := take_one las k _ hx
        obtain ⟨m, hmm⟩ : ∃ m, may K ⟨x.kind, x.key⟩ = m := ⟨_, rfl⟩
        have hrm := fun W => ref_May K ⟨x.kind, x.key⟩ W
        rw [hmm] at hrm
        have HMM := Lib.hid hmm
        have HTK := Lib.hid htk
        have HRM := Lib.hid hrm
        clear hx htk hrm hmm
        go_upto_region 10 with (fail)
        have hb3 : Below wr.heap.size wr (wr.alloc (.cells #[.int .i64 x.kind, .int .i64 x.key, .int .i64 x.th, .int .u8 x.ahead, .int .u8 x.later] 45)) := (Below.refl _ _).alloc (Nat.le_refl _) _
        have hxb := Blk.new wr 45 #[.int .i64 x.kind, .int .i64 x.key, .int .i64 x.th, .int .u8 x.ahead, .int .u8 x.later]
        clear hidx f0 f1 f2 f3 f4
        obtain ⟨X, hX⟩ : ∃ X, wr.heap.size = X := ⟨_, rfl⟩
        generalize (wr.alloc (.cells #[.int .i64 x.kind, .int .i64 x.key, .int .i64 x.th, .int .u8 x.ahead, .int .u8 x.later] 45)) = w3 at *
        rw [hX] at hxb
        have hc3 := hxb.cells
        go_wp2_with fail
        refine (HRM.out w3).mono ?_
        rintro e w4 ⟨rfl, hb4⟩
        have hb34 := hb3.trans (hb4.mono hb3.size)
        have hxb4 := hxb.step hb4
        have hown4 := own_step hown hb34
        have hb14 := hbr.trans (hb34.mono hbs)
        have hbs4 : b1 ≤ w4.heap.size := Nat.le_trans hbs hb34.size
        have hc4 := hxb4.cells
        clear hc3
        cases m
        · go_wp2_with fail
          go_ret
          exact ⟨rfl, hb0r.trans (hb34.mono hb0r.size)⟩
        · have hown5 := hown4.alloc (.cells #[.int .i64 x.kind, .int .i64 x.key] 43)
          have hma' : ∀ y ∈ las.take (k + 1), may K y.op = true := fun y hy => by
            rw [HTK.out] at hy
            rcases List.mem_append.1 hy with hy | hy
            · exact hma y hy
            · obtain rfl : y = x := by simpa using hy
              exact HMM.out
          have hfl : (opsA (las.take (k + 1))).flatMap Opn.cells = (opsA (las.take k)).flatMap Opn.cells ++ Opn.cells ⟨x.kind, x.key⟩ := by
            rw [HTK.out]; unfold opsA; simp [La.op]
          have HFL := Lib.hid hfl
          clear hfl
          go_wp2_with (at_builtin; refine wpList_append_lies _ rfl _ _ _ rfl b1 43 iP _ 2 16 Tryd.underlying41 hiP zP sP bP rfl (by omega) (.slice Ad k cd) k ((opsA (las.take k)).flatMap Opn.cells) rfl hown5 ⟨w4.heap.size, 0, none⟩ 1 1 (Opn.cells ⟨x.kind, x.key⟩) rfl rfl (World.news_of_block (heap_alloc_new w4 _)) (Opn.cells_one _) (by omega) (by unfold maxLen; omega) (by omega) (by simp; omega) (w4.heap.size + 1) (by simp) ?_; intro g cap w9 hown9 hgrow hat hlt9)
          have kap : Kp b1 [43] w4 w9 := ((Kp.refl b1 [43] w4).alloc hbs4 _).own hown5 (Nat.le_refl _) (by simp; omega) (by decide) hgrow
          go_roundw
          case rel => exact ⟨k + 1, by omega, by go_num, hma', by rw [HFL.out]; exact hown9, hb14.trans kap.below, Nat.le_trans hbs4 kap.size⟩
          case measure => simp [intOf]; omega
      · obtain rfl : k = n := by omega
        have htk : las.take k = las := List.take_of_length_le (by rw [HN.out]; exact Nat.le_refl _)
        rw [htk] at hma hown
        have hops := Sl.of_own hown
        have hopl : ∀ g, Value.ownBlock (.slice Ad k cd) = some g → g < wr.heap.size := fun g hg => by
          obtain ⟨-, cs, hb⟩ := own_at hown g hg
          exact hb.lt
        have HMA := Lib.hid hma
        clear hma hown htk hopl
        go_wp2_with fail
        refine (hist_new wr).mono ?_
        rintro e w3 ⟨rfl, h3, hb3⟩
        obtain ⟨b, hb⟩ : ∃ b, wr.heap.size = b := ⟨_, rfl⟩
        rw [hb] at h3 hb3 hops hbs ⊢
        have hb03 : Below w.heap.size w w3 := hb0r.trans (hb3.mono (by rw [← hb]; exact hb0r.size))
        have hbw : w.heap.size ≤ b := by rw [← hb]; exact hb0r.size
        have hb3s : b ≤ w3.heap.size := by have := hb3.size; omega
        have ho3 := hops.below hb3
        have hl3 := (hl.step (Nat.le_refl _) hb03).more hbw
        have hrun := run_start HD.out K
        clear hops hl1 hbr hb hbs hb0r
        go_wp2_with (refine wpList_make_full w3 rfl _ _ _ rfl b 3 iI _ 1 Tryd.underlying29 hiI zI sI .i64 .i64 _ _ k rfl rfl rfl rfl (by rw [bI]; omega) (by unfold maxLen; omega) hb3s ?_; intro w5 hown5 hgrow5)
        rw [made_ids] at hown5
        obtain ⟨I, hI⟩ : ∃ I, w3.heap.size = I := ⟨_, rfl⟩
        rw [hI] at hown5 ⊢
        have hbI : b ≤ I := by omega
        have hb35 : Below w3.heap.size w3 w5 := (Below.refl _ _).grown hgrow5 (Nat.le_refl _) (fun _ h => by cases h)
        have h5 := h3.step hb35
        have hb05 := hb03.trans (hb35.mono hb03.size)
        have hb5 : Below b w3 w5 := hb35.mono hb3s
        have hb5s : b ≤ w5.heap.size := Nat.le_trans hb3s hb35.size
        have HI := Lib.hid hI
        clear hgrow5 hb35 hI
        go_wp2_with fail
        go_loopw [11, 12] (fun mv tv wr => ∃ (t : Int) (s : HS) (ids : Nat → Nat), -256 ≤ t ∧ t ≤ 321 ∧ tv = .int .i64 t ∧ mv = .int .i64 s.calls.length ∧ RunOk K las s ids (bgA las t 0) (enA las t 0) ∧ HAt wr b b s ∧ wr.ownsRow b 3 1 (.slice (some ⟨I, 0, none⟩) k k) k (ints (idsL k ids)) ∧ Below b w3 wr ∧ b ≤ wr.heap.size) (fun _ tv _ => (321 - intOf tv).toNat)
        case atStart => exact ⟨-256, HS.new, _, by omega, by omega, rfl, rfl, hrun, h5, hown5, hb5, hb5s⟩
        case round =>
          clear hrun h5 hown5 hb05 hb5 hb5s
          obtain ⟨t, s, ids, ht1, ht2, rfl, rfl, hrun, hh, hown, hbr, hbs⟩ := hrel
          by_cases htl : t ≤ 320
          · go_wp2_with fail
            obtain ⟨wo, rfl⟩ : ∃ wo : World, wo = wr := ⟨_, rfl⟩
            go_loopw [11, 53] (fun mv i wr => ∃ (j : Nat) (s : HS) (ids : Nat → Nat), j ≤ k ∧ i = .int .i64 j ∧ mv = .int .i64 s.calls.length ∧ RunOk K las s ids (bgA las t j) (enA las t 0) ∧ HAt wr b b s ∧ wr.ownsRow b 3 1 (.slice (some ⟨I, 0, none⟩) k k) k (ints (idsL k ids)) ∧ Below b w3 wr ∧ b ≤ wr.heap.size) (fun _ i _ => k - (intOf i).toNat)
            case atStart => exact ⟨0, s, ids, by omega, rfl, rfl, hrun, hh, hown, hbr, hbs⟩
            case round =>
              clear hrun hh hown hbr hbs
              obtain ⟨j, s1, ids1, hj, rfl, rfl, hrun, hh, hown, hbr, hbs⟩ := hrel
              have h8 : las.length ≤ 8 := by rw [HN.out]; omega
              have hsz := hrun.sizes h8
              by_cases hlt : j < k
              · obtain ⟨x, hx⟩ : ∃ x, las[j]? = some x := ⟨_, List.getElem?_eq_getElem (by rw [HN.out]; exact hlt)⟩
                have hxd := HD.out x (List.mem_of_getElem? hx)
                have hlr := hl3.below hbr
                have hidx := hlr.idx (P := Tryd.prog) (c := c1) Tryd.underlying38 laSz hlt
                obtain ⟨f0, f1, f2, f3, f4⟩ := la_cells hlr hlt hx
                have HX := Lib.hid hx
                have HRUN := Lib.hid hrun
                clear hx hrun
                go_upto_region 23 with (fail)
                have hb6 : Below wr.heap.size wr (wr.alloc (.cells #[.int .i64 x.kind, .int .i64 x.key, .int .i64 x.th, .int .u8 x.ahead, .int .u8 x.later] 45)) := (Below.refl _ _).alloc (Nat.le_refl _) _
                have hxb := Blk.new wr 45 #[.int .i64 x.kind, .int .i64 x.key, .int .i64 x.th, .int .u8 x.ahead, .int .u8 x.later]
                clear hidx f0 f1 f2 f3 f4
                obtain ⟨X, hX⟩ : ∃ X, wr.heap.size = X := ⟨_, rfl⟩
                generalize (wr.alloc (.cells #[.int .i64 x.kind, .int .i64 x.key, .int .i64 x.th, .int .u8 x.ahead, .int .u8 x.later] 45)) = w6 at *
                rw [hX] at hxb
                have hc6 := hxb.cells
                have hh6 := hh.step hb6
                have hown6 := own_step hown hb6
                have hbr6 := hbr.trans (hb6.mono hbs)
                have hbs6 : b ≤ w6.heap.size := Nat.le_trans hbs hb6.size
                clear hh hown
                by_cases hte : t = 8 * (j : Int) - x.ahead
                · have hq : (t == 8 * (j : Int) - x.ahead) = true := beq_iff_eq.2 hte
                  obtain ⟨e0, hrun1⟩ := run_begin HRUN.out h8 HX.out hte
                  have hbg := hist_begin b s1 b (j : Int) x.kind x.key w6 hh6 hbs6 (by omega)
                  rw [e0] at hbg
                  have hcl1 : ((s1.begin_ (j : Int) x.kind x.key).calls.length : Int) = s1.calls.length + 1 := by
                    have : s1.begin_ (j : Int) x.kind x.key = s1.doB j x.kind x.key := by unfold HS.begin_; rw [if_pos e0, Int.toNat_natCast]
                    rw [this]; simp [HS.doB]
                  have HCL := Lib.hid hcl1
                  have HRUN1 := Lib.hid hrun1
                  have HBG := Lib.hid hbg
                  clear hcl1 hrun1 hbg hte e0
                  go_wp2_with fail
                  ((with_reducible refine HBG.out.mono ?_); rintro e w7 ⟨rfl, hh7, hk7⟩)
                  have hown7 := own_kp hown6 hk7 (by decide)
                  have hbr7 := hbr6.trans hk7.below
                  have hbs7 : b ≤ w7.heap.size := Nat.le_trans hbs6 hk7.size
                  obtain ⟨cs, hblk, hcs, hcap, hmx, hcell⟩ := own_rowcells hown7
                  have hxl := hown7.1
                  obtain ⟨u, hu⟩ : ∃ u, (ints (idsL k ids1))[j]? = some u := ⟨_, List.getElem?_eq_getElem (by rw [hxl]; omega)⟩
                  have hcj := (hcell j hlt).trans hu
                  have hfz := hblk.frozen j
                  have hst := (hown7.stored j (.int .i64 s1.calls.length)).1
                  have hset : (ints (idsL k ids1)).set j (.int .i64 s1.calls.length) = ints (idsL k (upd ids1 j s1.calls.length)) := by
                    rw [← idsL_set]; unfold ints; rw [List.map_set]
                  rw [hset] at hst
                  have kap : Kp b [3] w7 (w7.setCell ⟨I, j, none⟩ (.int .i64 s1.calls.length)) := (Kp.refl b [3] w7).own hown7 (Nat.le_refl _) hbs7 (by decide) (hown7.stored j (.int .i64 s1.calls.length)).2
                  have hh8 := hh7.kp kap (by decide) (by decide) (by decide)
                  have hbr8 := hbr7.trans kap.below
                  have hbs8 : b ≤ (w7.setCell ⟨I, j, none⟩ (.int .i64 s1.calls.length)).heap.size := Nat.le_trans hbs7 kap.size
                  have HST := Lib.hid hst
                  clear hblk hcs hcap hmx hcell hu hxl hst hset hown7 hown6 hh7 hh6 hxb hc6 kap
                  go_wp2_with fail
                  go_roundw
                  case rel => exact ⟨j + 1, s1.begin_ (j : Int) x.kind x.key, upd ids1 j s1.calls.length, by omega, by go_num, by rw [HCL.out], HRUN1.out, hh8, HST.out, hbr8, hbs8⟩
                  case measure => simp [intOf]; omega
                · have hq : (t == 8 * (j : Int) - x.ahead) = false := beq_eq_false_iff_ne.2 hte
                  have hrun1 := run_pass HRUN.out HX.out hte
                  clear hte
                  go_wp2_with fail
                  go_roundw
                  case rel => exact ⟨j + 1, s1, ids1, by omega, by go_num, rfl, hrun1, hh6, hown6, hbr6, hbs6⟩
                  case measure => simp [intOf]; omega
              · obtain rfl : j = k := by omega
                have hrun0 : RunOk K las s1 ids1 (bgA las (t + 1) 0) (enA las t 0) := by
                  have := bgA_next (las := las) t
                  rw [HN.out] at this
                  rw [← this]; exact hrun
                clear hrun
                go_wp2_with fail
                obtain ⟨wo2, rfl⟩ : ∃ wo2 : World, wo2 = wr := ⟨_, rfl⟩
                go_loopw [81] (fun i wr => ∃ (m : Nat) (s2 : HS), m ≤ j ∧ i = .int .i64 m ∧ s2.calls.length = s1.calls.length ∧ RunOk K las s2 ids1 (bgA las (t + 1) 0) (enA las t m) ∧ HAt wr b b s2 ∧ wr.ownsRow b 3 1 (.slice (some ⟨I, 0, none⟩) j j) j (ints (idsL j ids1)) ∧ Below b w3 wr ∧ b ≤ wr.heap.size) (fun i _ => j - (intOf i).toNat)
                case atStart => exact ⟨0, s1, by omega, rfl, rfl, hrun0, hh, hown, hbr, hbs⟩
                case round =>
                  clear hrun0 hh hown hbr hbs
                  obtain ⟨m, s2, hm, rfl, hcl, hrun, hh, hown, hbr, hbs⟩ := hrel
                  have hsz2 := hrun.sizes h8
                  have HCL := Lib.hid hcl
                  clear hcl
                  by_cases hlt2 : m < j
                  · obtain ⟨x, hx⟩ : ∃ x, las[m]? = some x := ⟨_, List.getElem?_eq_getElem (by rw [HN.out]; exact hlt2)⟩
                    have hxd := HD.out x (List.mem_of_getElem? hx)
                    have hlr := hl3.below hbr
                    have hidx := hlr.idx (P := Tryd.prog) (c := c1) Tryd.underlying38 laSz hlt2
                    obtain ⟨f0, f1, f2, f3, f4⟩ := la_cells hlr hlt2 hx
                    have HX := Lib.hid hx
                    have HRUN := Lib.hid hrun
                    clear hx hrun
                    go_upto_region 32 with (fail)
                    have hb6 : Below wr.heap.size wr (wr.alloc (.cells #[.int .i64 x.kind, .int .i64 x.key, .int .i64 x.th, .int .u8 x.ahead, .int .u8 x.later] 45)) := (Below.refl _ _).alloc (Nat.le_refl _) _
                    have hxb := Blk.new wr 45 #[.int .i64 x.kind, .int .i64 x.key, .int .i64 x.th, .int .u8 x.ahead, .int .u8 x.later]
                    clear hidx f0 f1 f2 f3 f4
                    obtain ⟨X, hX⟩ : ∃ X, wr.heap.size = X := ⟨_, rfl⟩
                    generalize (wr.alloc (.cells #[.int .i64 x.kind, .int .i64 x.key, .int .i64 x.th, .int .u8 x.ahead, .int .u8 x.later] 45)) = w6 at *
                    rw [hX] at hxb
                    have hh6 := hh.step hb6
                    have hown6 := own_step hown hb6
                    have hbr6 := hbr.trans (hb6.mono hbs)
                    have hbs6 : b ≤ w6.heap.size := Nat.le_trans hbs hb6.size
                    clear hh hown
                    by_cases hte : t = 8 * (m : Int) + x.later
                    · have hq : (t == 8 * (m : Int) + x.later) = true := beq_iff_eq.2 hte
                      obtain ⟨e0, hrun1⟩ := run_end HRUN.out h8 HD.out HX.out hte
                      have hsm := (ho3.below hbr6).upto (show m ≤ j by omega)
                      rw [flat_take Opn.cells 2 Opn.cells_len] at hsm
                      have hml : ((opsA las).take m).length = m := by rw [List.length_take]; unfold opsA; rw [List.length_map, HN.out]; omega
                      obtain ⟨r, hr⟩ : ∃ r, rrA K las m x = r := ⟨_, rfl⟩
                      have hres := fun (W : World) (hb : Below w6.heap.size w6 W) => ref_Res (w := W) (c := cd) K ⟨x.kind, x.key⟩ (hsm.step hbs6 hb) (Nat.le_trans hbs6 hb.size) hml (by omega) (by omega)
                      have hr' : refRes K ((opsA las).take m) ⟨x.kind, x.key⟩ = r := hr
                      rw [hr'] at hres
                      rw [hr] at hrun1
                      have hen := fun (W : World) (hb : Below w6.heap.size w6 W) => hist_end b s2 b (m : Int) r.code r.ok r.val W (hh6.step hb) (Nat.le_trans hbs6 hb.size) (by omega)
                      rw [e0] at hen
                      have hcl2 : (s2.end_ (m : Int) r.code r.ok r.val).calls.length = s1.calls.length := by
                        have : s2.end_ (m : Int) r.code r.ok r.val = s2.doE m r.code r.ok r.val := by unfold HS.end_; rw [if_pos e0, Int.toNat_natCast]
                        rw [this]; simp only [HS.doE, List.length_modify]; exact HCL.out
                      have HCL2 := Lib.hid hcl2
                      have HRUN1 := Lib.hid hrun1
                      have HRES := Lib.hid hres
                      have HEN := Lib.hid hen
                      have qx := Later.cells (B := w6.heap.size) hxb hxb.lt
                      have hup := run_upto (P := Tryd.prog) Tryd.underlying41 opSz Ad j cd m (m : Int) rfl (by omega)
                      have hup' := fun q : Later w6.heap.size w6 => hup q.val
                      clear hcl2 hrun1 hres hen hte e0 hr hr' hsm hml
                      refine wp_region_ph (fun w' => ∃ q : Later w6.heap.size w6, w' = q.val) 17 [] [0, 1, 2, 3, 4, 5, 6, 7, 8, 9, 10, 11, 12, 13, 14, 15, 16] [17, 18, 19, 20] (by kernel_rfl) (by kernel_rfl) (Later.mk_ (Below.refl _ _).drew) ?_
                      refine wpPh_nil ?_
                      simp only [opsAt, List.map_cons, List.map_nil, List.getD_cons_zero, List.getD_cons_succ]
                      repeat (go_big_quiet_step (fail))
                      refine wpQuiet_nil ?_
                      refine wpTail_late _ _ _ (by kernel_rfl) ?_
                      simp only [opsAt, List.map_cons, List.map_nil, List.getD_cons_zero, List.getD_cons_succ]
                      have hb66 : Below w6.heap.size w6 w6.drew := (Below.refl _ _).drew
                      clear qx hup hup'
                      go_wp2_with fail
                      ((with_reducible refine (HRES.out _ hb66).mono ?_); rintro e w7 ⟨rfl, hb7⟩)
                      have hb67 := hb66.trans hb7
                      go_wp2_with fail
                      ((with_reducible refine (HEN.out _ hb67).mono ?_); rintro e w8 ⟨rfl, hh8, hk8⟩)
                      have hbs7 : b ≤ w7.heap.size := Nat.le_trans hbs6 hb67.size
                      have hown8 := own_kp (own_step hown6 hb67) hk8 (by decide)
                      have hbr8 := (hbr6.trans (hb67.mono hbs6)).trans hk8.below
                      have hbs8 : b ≤ w8.heap.size := Nat.le_trans hbs7 hk8.size
                      go_wp2_with fail
                      refine NoPanic.normal ?_
                      go_wp2_with fail
                      go_roundw
                      case rel => exact ⟨m + 1, s2.end_ (m : Int) r.code r.ok r.val, by omega, by go_num, HCL2.out, HRUN1.out, hh8, hown8, hbr8, hbs8⟩
                      case measure => simp [intOf]; omega
                    · have hq : (t == 8 * (m : Int) + x.later) = false := beq_eq_false_iff_ne.2 hte
                      have hrun1 := run_wait HRUN.out HX.out hte
                      have hc6 := hxb.cells
                      clear hte
                      have HRUN1 := Lib.hid hrun1
                      clear hrun1
                      go_quiet (fail)
                      go_wp2_with fail
                      go_roundw
                      case rel => exact ⟨m + 1, s2, by omega, by go_num, HCL.out, HRUN1.out, hh6.drewN _, own_drewN hown6 _, below_drewN hbr6 _, hbs6⟩
                      case measure => simp [intOf]; omega
                  · obtain rfl : m = j := by omega
                    have hrun1 : RunOk K las s2 ids1 (bgA las (t + 1) 0) (enA las (t + 1) 0) := by
                      have := enA_next (las := las) t
                      rw [HN.out] at this
                      rw [← this]; exact hrun
                    have HRUN := Lib.hid hrun1
                    clear hrun hrun1
                    go_wp2_with fail
                    go_roundw
                    case rel => exact ⟨t + 1, s2, ids1, by omega, by omega, by go_num, by rw [HCL.out], HRUN.out, hh, hown, hbr, hbs⟩
                    case measure => simp [intOf]; omega
          · obtain rfl : t = 321 := by omega
            have h8 : las.length ≤ 8 := by rw [HN.out]; omega
            have hR := run_over hrun h8 HD.out hK4 HMA.out
            have hsz := hrun.sizes h8
            have hcl : s.calls.length = k := hR.len.trans HN.out
            have hgood := hR.good
            have hleg := hR.legal
            rw [HN.out] at hleg
            have hf := hR.find0
            have hb0r : Below w.heap.size w wr := hb03.trans (hbr.mono (by omega))
            have ho := Sl.of_own hown
            have hbe := lin_behind K hK4 b s b wr hh hgood (by omega) (by omega) (some ⟨I, 0, none⟩) k k wr.heap.size (idsL k ids) ho (Nat.le_refl _) (idsL_len _ _) (by omega)
            rw [hleg] at hbe
            have hle := lin_legal_ok K (some ⟨b, 0, none⟩) (.slice (some ⟨I, 0, none⟩) k k) true wr (hbe.mono fun e w' ⟨he, hb⟩ => ⟨told_ok he, hb⟩)
            have hli := fun (W : World) (hW : Below wr.heap.size wr W) => lin_linear K hK4 b s b 8 W (hh.step hW) hgood (by omega) (by omega) (fun P => Nat.le_trans (List.length_filter_le _ _) (by omega)) (cost_eight _ (by omega)) (fun w' hb' => HT.out w' ((hb0r.trans (hW.mono hb0r.size)).trans (hb'.mono (Nat.le_trans hb0r.size hW.size)))) true hf
            have HLE := Lib.hid hle
            have HLI := Lib.hid hli
            rw [hcl]
            clear hle hli hbe hleg hf hcl hgood hR hsz hrun ho
            go_wp2_with fail
            ((with_reducible refine HLE.out.mono ?_); rintro e w7 ⟨rfl, hb7⟩)
            go_wp2_with fail
            ((with_reducible refine (HLI.out w7 hb7).mono ?_); rintro e w8 ⟨rfl, hb8⟩)
            have hb08 := (hb0r.trans (hb7.mono hb0r.size)).trans (hb8.mono (Nat.le_trans hb0r.size hb7.size))
            go_wp2_with fail
            go_ret
            exact ⟨rfl, hb08⟩
end Go.Proofs.YtboommppikfgnaaDoor
