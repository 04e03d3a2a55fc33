/- Contract of the document's Fits (layer 9).
   Conditions: the numbers ahead of the last one are those of calls. -/
import Derived.Test.YtboommppikfgnaaDoorLinRef
import Derived.Test.YtboommppikfgnaaDoorPhase
namespace Go.Proofs.YtboommppikfgnaaDoor
open Go Go.RowKit

def resR (c : RC) (r : Rsl) : Bool := (c.code == r.code) && (c.ok == r.ok) && (c.val == r.val)
def noneAhead (cs : List RC) (c : RC) (l : List Int) : Bool := l.all fun i => match rAt cs i with
  | some d => !(spanB c.ended d.began)
  | none => true
def fitsR (sh : Int) (cs : List RC) (pre : List Int) (id : Int) : Bool :=
  match rAt cs id with
  | none => false
  | some c => !(pre.contains id) && (may sh c.op && (!(decide (0 ≤ c.ended) && !(c.code == 0)) && (noneAhead cs c pre && (decide (c.ended < 0) || resR c (refRes sh (opsR cs pre) c.op)))))

set_option maxRecDepth 100000 in
set_option maxHeartbeats 6400000 in
theorem ref_fits {w : World} {B n cc k co : Nat} {A Ao : Option Addr} {cs : List RC} (sh : Int) (pre : List Int) (id : Int) (hs : Sl w B 8 A n (cs.flatMap RC.cells)) (ho : Sl w B 1 Ao (k + 1) (ints (pre ++ [id]))) (hB : B ≤ w.heap.size) (hn : cs.length = n) (hn' : n ≤ 1000) (hl : pre.length = k) (hk : k ≤ 900) (hco : k + 1 ≤ co) (hv : ValidR cs pre) :
    Calls Tryd.prog 30 #[.int .i64 sh, .slice A n cc, .slice Ao (k + 1) co] w fun e w' => e = .returned (.bool (fitsR sh cs pre id)) ∧ Below w.heap.size w w' := by
  have HL := Lib.hid hl
  have HN := Lib.hid hn
  have HV := Lib.hid hv
  have hlast : (pre ++ [id])[k]? = some id := by rw [← hl]; exact List.getElem?_concat_length
  have hidx := ho.idx (P := Tryd.prog) (c := co) Tryd.underlying29 intSz (show k < k + 1 by omega)
  have g1 := RowI.at_ ho (show k < k + 1 by omega) hlast
  simp only [Nat.mul_one] at g1 hidx
  have hup : ∀ W : World, (Instr.sliceAt 29 (.slice Ao (k + 1) co) none (some (.int .i64 (k : Int))) none).run Tryd.prog W = .ok (.slice Ao k co) W := run_upto Tryd.underlying29 intSz Ao (k + 1) co k k rfl (by omega)
  have hpre : Sl w B 1 Ao k (ints pre) := by
    have h1 := ho.upto (show k ≤ k + 1 by omega)
    have h2 : (ints (pre ++ [id])).take (k * 1) = ints pre := by
      rw [ints_app, Nat.mul_one]
      exact List.take_left' (by rw [ints_len, hl])
    rwa [h2] at h1
  have hf : fitsR sh cs pre id = match rAt cs id with
    | none => false
    | some c => !(pre.contains id) && (may sh c.op && (!(decide (0 ≤ c.ended) && !(c.code == 0)) && (noneAhead cs c pre && (decide (c.ended < 0) || resR c (refRes sh (opsR cs pre) c.op))))) := rfl
  have HF := Lib.hid hf
  clear hl hn hv hlast hf
  by_cases h0 : id < 0
  · have hno : fitsR sh cs pre id = false := by
      rw [HF.out]; unfold rAt; rw [if_neg (by omega)]
    have HNO := Lib.hid hno
    clear hno
    go_enter Tryd.func30, Tryd.ntmps30
    go_wp2_with fail
    go_ret
    exact ⟨by rw [HNO.out]; rfl, Below.refl _ _⟩
  · by_cases h1 : (n : Int) ≤ id
    · have hno : fitsR sh cs pre id = false := by
        rw [HF.out]; unfold rAt; rw [if_pos (by omega), List.getElem?_eq_none (by have := HN.out; omega)]
      have HNO := Lib.hid hno
      clear hno
      go_enter Tryd.func30, Tryd.ntmps30
      go_wp2_with fail
      go_ret
      exact ⟨by rw [HNO.out]; rfl, Below.refl _ _⟩
    · have hid : 0 ≤ id ∧ id < (n : Int) := by omega
      obtain ⟨c, hc1, hc2⟩ := rAt_valid (cs := cs) (i := id) (by rw [HN.out]; exact hid)
      have hidy := idx_int (P := Tryd.prog) (c := cc) hs Tryd.underlying27 rcaSz hid
      have hcells := rc_cells hs (show id.toNat < n by omega) hc2
      have hf2 := HF.out
      rw [hc1] at hf2
      have HF2 : Hid (fitsR sh cs pre id = (!(pre.contains id) && (may sh c.op && (!(decide (0 ≤ c.ended) && !(c.code == 0)) && (noneAhead cs c pre && (decide (c.ended < 0) || resR c (refRes sh (opsR cs pre) c.op))))))) := hf2
      have hpl := ref_place (co := co) id hpre hB HL.out (by omega)
      have hmy := fun W => ref_May sh c.op W
      obtain ⟨idn, hidn⟩ : ∃ idn, id.toNat = idn := ⟨_, rfl⟩
      rw [hidn] at hidy hcells
      obtain ⟨f0, f1, f2, f3, f4, f5, f6, f7⟩ := hcells
      have HPL := Lib.hid hpl
      have HMY := Lib.hid hmy
      clear hf2 hpl hmy hc1 hc2 hidn HF
      go_enter Tryd.func30, Tryd.ntmps30
      go_wp2_with fail
      refine HPL.out.mono ?_
      rintro e w1 ⟨⟨p, rfl, hp⟩, rfl⟩
      by_cases hneg : p < 0
      · have hcont : pre.contains id = false := by simpa using hp.1 hneg
        have hnneg : ¬ (0 : Int) ≤ p := by omega
        have HCO := Lib.hid hcont
        clear hcont hp
        go_upto_region 6 with (fail)
        have hb3 : Below w.heap.size w (w.alloc (.cells #[.int .i64 c.th, .int .i64 c.began, .int .i64 c.ended, .int .i64 c.kind, .int .i64 c.key, .int .i64 c.code, .bool c.ok, .int .i64 c.val] 68)) := (Below.refl _ _).alloc (Nat.le_refl _) _
        have hx3 := Blk.new w 68 #[.int .i64 c.th, .int .i64 c.began, .int .i64 c.ended, .int .i64 c.kind, .int .i64 c.key, .int .i64 c.code, .bool c.ok, .int .i64 c.val]
        obtain ⟨X, hX⟩ : ∃ X, w.heap.size = X := ⟨_, rfl⟩
        rw [hX] at hx3
        generalize (w.alloc (.cells #[.int .i64 c.th, .int .i64 c.began, .int .i64 c.ended, .int .i64 c.kind, .int .i64 c.key, .int .i64 c.code, .bool c.ok, .int .i64 c.val] 68)) = w3 at *
        rw [hX]
        have hc3 := hx3.cells
        obtain ⟨mm, hmm⟩ : ∃ mm, may sh c.op = mm := ⟨_, rfl⟩
        rw [hmm] at HMY
        have HMM := Lib.hid hmm
        have hf3 := HF2.out
        rw [HCO.out, hmm] at hf3
        have HF3 := Lib.hid hf3
        clear hmm hf3 HF2
        clear hidx g1 hup f0 f1 f2 f3 f4 f5 f6 f7 hidy
        have hcase : mm = false ∨ (mm = true ∧ 0 ≤ c.ended ∧ ¬ c.code = 0) ∨ (mm = true ∧ 0 ≤ c.ended ∧ c.code = 0) ∨ (mm = true ∧ c.ended < 0) := by
          cases mm
          · exact .inl rfl
          · have : (0 ≤ c.ended ∧ ¬ c.code = 0) ∨ (0 ≤ c.ended ∧ c.code = 0) ∨ c.ended < 0 := by omega
            rcases this with h | h | h
            · exact .inr (.inl ⟨rfl, h⟩)
            · exact .inr (.inr (.inl ⟨rfl, h⟩))
            · exact .inr (.inr (.inr ⟨rfl, h⟩))
        rcases hcase with rfl | ⟨rfl, he, hz⟩ | ⟨rfl, he, hz⟩ | ⟨rfl, he⟩
        case inl =>
          have hno : fitsR sh cs pre id = false := by rw [HF3.out]; rfl
          have HNO := Lib.hid hno
          clear hno
          go_wp2_with fail
          refine (HMY.out _).mono ?_
          rintro e w4 ⟨rfl, hb4⟩
          have hc4 := (hx3.step hb4).cells
          clear hc3
          go_wp2_with fail
          go_ret
          exact ⟨by rw [HNO.out]; rfl, hb3.trans (hb4.mono hb3.size)⟩
        case inr.inl =>
          have hno : fitsR sh cs pre id = false := by
            rw [HF3.out, decide_eq_true he, show (c.code == 0) = false from beq_eq_false_iff_ne.2 hz]; rfl
          have hb : (c.code == 0) = false := beq_eq_false_iff_ne.2 hz
          have HNO := Lib.hid hno
          clear hno hz
          go_wp2_with fail
          refine (HMY.out _).mono ?_
          rintro e w4 ⟨rfl, hb4⟩
          have hc4 := (hx3.step hb4).cells
          clear hc3
          go_wp2_with fail
          go_ret
          exact ⟨by rw [HNO.out]; rfl, hb3.trans (hb4.mono hb3.size)⟩
        case' inr.inr.inl =>
          have hf4 := HF3.out
          rw [decide_eq_true he, show (c.code == 0) = true by simpa using hz] at hf4
          have HF4 : Hid (fitsR sh cs pre id = (noneAhead cs c pre && (decide (c.ended < 0) || resR c (refRes sh (opsR cs pre) c.op)))) := Lib.hid (by rw [hf4]; simp)
          have hcb : (c.code == 0) = true := by simpa using hz
          have HZ := Lib.hid hz
          clear hz hf4
        case' inr.inr.inr =>
          have hf4 := HF3.out
          rw [show decide ((0 : Int) ≤ c.ended) = false from decide_eq_false (by omega)] at hf4
          have HF4 : Hid (fitsR sh cs pre id = (noneAhead cs c pre && (decide (c.ended < 0) || resR c (refRes sh (opsR cs pre) c.op)))) := Lib.hid (by rw [hf4]; simp)
          clear hf4
        all_goals
          go_wp2_with fail
          refine (HMY.out _).mono ?_
          rintro e w4 ⟨rfl, hb4⟩
          have hx4 := hx3.step hb4
          have hc4 := hx4.cells
          have hb34 := hb3.trans (hb4.mono hb3.size)
          clear hc3
          go_upto_region 8 with (fail)
          go_wp2_with fail
          go_loopw [10] (fun i wr => ∃ j : Nat, j ≤ k ∧ i = .int .i64 j ∧ noneAhead cs c (pre.take j) = true ∧ Below w4.heap.size w4 wr) (fun i _ => k - (intOf i).toNat)
          case atStart => exact ⟨0, by omega, rfl, rfl, Below.refl _ _⟩
          case round =>
            obtain ⟨j, hj, rfl, hna, hbr⟩ := hrel
            have hxr := hx4.step hbr
            have hb0r := hb34.trans (hbr.mono hb34.size)
            have hsr := hs.step hB hb0r
            have hpr := hpre.step hB hb0r
            by_cases hlt : j < k
            · obtain ⟨y, hy⟩ : ∃ y, pre[j]? = some y := ⟨_, List.getElem?_eq_getElem (by rw [HL.out]; exact hlt)⟩
              have hyv := HV.out y (List.mem_of_getElem? hy)
              obtain ⟨d, hd1, hd2⟩ := rAt_valid hyv
              have hyn : 0 ≤ y ∧ y < (n : Int) := by rw [← HN.out]; exact hyv
              have hor := ho.step hB hb0r
              have hyl : (pre ++ [id])[j]? = some y := by rw [List.getElem?_append_left (by rw [HL.out]; exact hlt)]; exact hy
              have hidj := hor.idx (P := Tryd.prog) (c := co) Tryd.underlying29 intSz (show j < k + 1 by omega)
              have gj := RowI.at_ hor (show j < k + 1 by omega) hyl
              simp only [Nat.mul_one] at gj hidj
              have hidd := idx_int (P := Tryd.prog) (c := cc) hsr Tryd.underlying27 rcaSz hyn
              have hdc := rc_cells hsr (show y.toNat < n by omega) hd2
              have hsn : noneAhead cs c (pre.take (j + 1)) = !(spanB c.ended d.began) := by
                rw [take_one pre j y hy]
                unfold noneAhead at hna ⊢
                rw [List.all_append, hna]
                simp [hd1]
              have hbad : spanB c.ended d.began = true → noneAhead cs c pre = false := fun h1 => by
                cases h : noneAhead cs c pre
                · rfl
                · unfold noneAhead at h
                  have := List.all_eq_true.1 h y (List.mem_of_getElem? hy)
                  rw [hd1] at this
                  simp only at this
                  rw [h1] at this
                  cases this
              have hbf := fun W => ref_before c d W
              obtain ⟨sb, hsb⟩ : ∃ sb, spanB c.ended d.began = sb := ⟨_, rfl⟩
              rw [hsb] at hbf hsn hbad
              have HBF := Lib.hid hbf
              have HSN := Lib.hid hsn
              have HBAD := Lib.hid hbad
              obtain ⟨yt, hyt⟩ : ∃ yt, y.toNat = yt := ⟨_, rfl⟩
              rw [hyt] at hidd hdc
              have hbX : ablk A < wr.heap.size := by have := hsr.blt (by omega : 0 < n); have := hb0r.size; omega
              have hbO : ablk Ao < wr.heap.size := by have := hor.blt (by omega : 0 < k + 1); have := hb0r.size; omega
              obtain ⟨p0, p1, p2, p3, p4, p5, p6, p7⟩ := hdc
              have qx := Later.cells (B := wr.heap.size) hxr hxr.lt
              have q8 := Later.cell (B := wr.heap.size) gj hbO
              have q0 := Later.cell (B := wr.heap.size) p0 hbX
              have q1 := Later.cell (B := wr.heap.size) p1 hbX
              have q2 := Later.cell (B := wr.heap.size) p2 hbX
              have q3 := Later.cell (B := wr.heap.size) p3 hbX
              have q4 := Later.cell (B := wr.heap.size) p4 hbX
              have q5 := Later.cell (B := wr.heap.size) p5 hbX
              have q6 := Later.cell (B := wr.heap.size) p6 hbX
              have q7 := Later.cell (B := wr.heap.size) p7 hbX
              clear hy hyv hd1 hd2 hyn hyl hsn hbad hsb hbf hna hyt p0 p1 p2 p3 p4 p5 p6 p7 gj hc4
              go_wp2_with fail
              refine wp_region_later wr.heap.size (by kernel_rfl) (by kernel_rfl) ?_
              repeat (go_big_quiet_step ((go_at_call 50; exact Later.call (Nat.le_refl _) (HBF.out _))))
              refine wpQuiet_nil ?_
              intro w5 hq5
              obtain ⟨qq, hqq⟩ := hq5
              have hb5 : Below wr.heap.size wr w5 := by rw [hqq]; exact qq.below
              have hb05 := hb0r.trans (hb5.mono hb0r.size)
              have hb45 := hbr.trans (hb5.mono hbr.size)
              clear hqq qq qx q0 q1 q2 q3 q4 q5 q6 q7 q8 hidj hidd hor hbX hbO HBF
              cases sb with
              | true =>
                have hno : fitsR sh cs pre id = false := by simp [HF4.out, HBAD.out rfl]
                have HNO := Lib.hid hno
                clear hno
                go_wp2_with fail
                go_ret
                exact ⟨by rw [HNO.out]; rfl, by rw [← hX]; exact hb05⟩
              | false =>
                have HNA : Hid (noneAhead cs c (pre.take (j + 1)) = true) := Lib.hid (by rw [HSN.out]; rfl)
                go_wp2_with fail
                exact ⟨⟨j + 1, by omega, by go_num, HNA.out, hb45⟩, by simp [intOf]; omega⟩
            · obtain rfl : j = k := by omega
              have htk : pre.take j = pre := List.take_of_length_le (by rw [HL.out]; omega)
              rw [htk] at hna
              have hf5 := HF4.out
              rw [hna, Bool.true_and] at hf5
              have HF5 := Lib.hid hf5
              have hup2 : ∀ W : World, (Instr.sliceAt 29 (.slice Ao (j + 1) co) none (some (.int .i64 (j : Int))) none).run Tryd.prog W = .ok (.slice Ao j co) W := run_upto Tryd.underlying29 intSz Ao (j + 1) co j j rfl (by omega)
              have qx := Later.cells (B := wr.heap.size) hxr hxr.lt
              clear hna htk hc4 he hf5
              by_cases hp0 : c.ended < 0
              · first
                | (exfalso; omega)
                | (
                    have hft : fitsR sh cs pre id = true := by rw [HF5.out, decide_eq_true hp0]; rfl
                    have HFT := Lib.hid hft
                    clear hft
                    go_wp2_with fail
                    refine wp_region_later wr.heap.size (by kernel_rfl) (by kernel_rfl) ?_
                    repeat (go_big_quiet_step (fail))
                    refine wpQuiet_nil ?_
                    intro w5 hq5
                    obtain ⟨qq, hqq⟩ := hq5
                    have hb5 : Below wr.heap.size wr w5 := by rw [hqq]; exact qq.below
                    have hb05 := hb0r.trans (hb5.mono hb0r.size)
                    clear hqq qq qx
                    go_wp2_with fail
                    go_ret
                    exact ⟨by rw [HFT.out]; rfl, hb05⟩)
              · first
                | (exfalso; omega)
                | (
                    have hp1 : 0 ≤ c.ended := by omega
                    obtain ⟨os, hos⟩ : ∃ os, opsR cs pre = os := ⟨_, rfl⟩
                    have hol : os.length ≤ j := by rw [← hos, ← HL.out]; exact opsR_len pre
                    obtain ⟨RR, hRR⟩ : ∃ RR, refRes sh os c.op = RR := ⟨_, rfl⟩
                    have hft : fitsR sh cs pre id = ((c.code == RR.code) && (c.ok == RR.ok) && (c.val == RR.val)) := by
                      rw [HF5.out, decide_eq_false hp0, hos, hRR]; rfl
                    have HFT := Lib.hid hft
                    have hops := fun (W : World) (hb : Below wr.heap.size wr W) => ref_ops (cc := cc) (co := co) (hsr.step (Nat.le_trans hB hb0r.size) hb) (hpr.step (Nat.le_trans hB hb0r.size) hb) (Nat.le_trans hB (Nat.le_trans hb0r.size hb.size)) HN.out HL.out (by omega) HV.out
                    rw [hos] at hops
                    have hres := fun (W : World) (B' c' : Nat) (A' : Option Addr) (h : Sl W B' 2 A' os.length (os.flatMap Opn.cells)) (h2 : B' ≤ W.heap.size) (h3 : os.length ≤ c') => ref_Res (c := c') sh c.op h h2 rfl (by omega) h3
                    rw [hRR] at hres
                    have HOPS := Lib.hid hops
                    have HRES := Lib.hid hres
                    have hdd : decide (c.ended < 0) = false := decide_eq_false hp0
                    clear hft hops hres hos hRR hp0
                    go_wp2_with fail
                    refine wp_region_ph (fun w' => ∃ q : Later wr.heap.size wr, w' = q.val) 17 [([0, 1, 2, 3, 4, 5, 6, 7, 8, 9, 10, 12, 13], 11), ([], 14)] [15, 16] [17] (by kernel_rfl) (by kernel_rfl) (Later.mk_ (Below.refl _ _).drew) ?_
                    refine wpPh_cons ?_
                    simp only [opsAt, List.map_cons, List.map_nil, List.getD_cons_zero, List.getD_cons_succ]
                    repeat (go_big_quiet_step (fail))
                    refine wpQuiet_nil ?_
                    refine wpPh_op rfl (fun K' hK' => ?_)
                    go_simp
                    refine (HOPS.out _ ((Below.refl _ _).drew)).mono ?_
                    rintro e x1 ⟨⟨v1, rfl, hv1⟩, hx1⟩
                    have hx1' : Below wr.heap.size wr x1 := (Below.refl _ _).drew.trans hx1
                    obtain ⟨A1, c1, rfl, hc1, -, -⟩ := own_form hv1
                    have sl1 := Sl.of_own hv1
                    refine hK' _ _ (Later.mk_ hx1') ?_
                    clear hK' K' hx1 hv1
                    refine wpPh_cons ?_
                    refine wpQuiet_nil ?_
                    refine wpPh_op rfl (fun K' hK' => ?_)
                    go_simp
                    refine (HRES.out x1 _ _ _ sl1 (Nat.le_refl _) hc1).mono ?_
                    rintro e x2 ⟨rfl, hx2⟩
                    have hx2' := hx1'.trans (hx2.mono hx1'.size)
                    have hb05 := hb0r.trans (hx2'.mono hb0r.size)
                    refine hK' _ _ (Later.mk_ hx2') ?_
                    clear hK' K' hx2 sl1 hx1'
                    refine wpPh_nil ?_
                    have harms : ¬ c.code = RR.code ∨ (c.code = RR.code ∧ ¬ c.ok = RR.ok) ∨ (c.code = RR.code ∧ c.ok = RR.ok ∧ ¬ c.val = RR.val) ∨ (c.code = RR.code ∧ c.ok = RR.ok ∧ c.val = RR.val) := by
                      by_cases h0 : c.code = RR.code
                      · by_cases h1 : c.ok = RR.ok
                        · by_cases h2 : c.val = RR.val
                          · exact .inr (.inr (.inr ⟨h0, h1, h2⟩))
                          · exact .inr (.inr (.inl ⟨h0, h1, h2⟩))
                        · exact .inr (.inl ⟨h0, h1⟩)
                      · exact .inl h0
                    rcases harms with g0 | ⟨g0, g1⟩ | ⟨g0, g1, g2⟩ | ⟨g0, g1, g2⟩
                    case' inl => have HV2 : Hid (fitsR sh cs pre id = false) := Lib.hid (by rw [HFT.out, show (c.code == RR.code) = false from beq_eq_false_iff_ne.2 g0]; rfl)
                    case' inr.inl => have HV2 : Hid (fitsR sh cs pre id = false) := Lib.hid (by rw [HFT.out, show (c.ok == RR.ok) = false from beq_eq_false_iff_ne.2 g1]; simp)
                    case' inr.inr.inl => have HV2 : Hid (fitsR sh cs pre id = false) := Lib.hid (by rw [HFT.out, show (c.val == RR.val) = false from beq_eq_false_iff_ne.2 g2]; simp)
                    case' inr.inr.inr => have HV2 : Hid (fitsR sh cs pre id = true) := Lib.hid (by rw [HFT.out, g0, g1, g2]; simp)
                    all_goals
                      repeat (go_big_quiet_step (fail))
                      refine wpQuiet_nil ?_
                      refine wpTail_late _ _ _ (by kernel_rfl) ?_
                      simp only [opsAt, List.map_cons, List.map_nil, List.getD_cons_zero, List.getD_cons_succ]
                      go_wp2_with fail
                      refine NoPanic.normal ?_
                      go_wp2_with fail
                      go_ret
                      exact ⟨by rw [HV2.out]; rfl, hb05⟩)
      · have hin : id ∈ pre := by
          rcases Decidable.em (id ∈ pre) with h | h
          · exact h
          · exact absurd (hp.2 h) hneg
        have hno : fitsR sh cs pre id = false := by
          rw [HF2.out]
          have : pre.contains id = true := by simpa using hin
          rw [this]; rfl
        have hnneg : (0 : Int) ≤ p := by omega
        have HNO := Lib.hid hno
        clear hno hp hin
        go_wp2_with fail
        go_ret
        exact ⟨by rw [HNO.out]; rfl, Below.refl _ _⟩
end Go.Proofs.YtboommppikfgnaaDoor
