/- Contract of the document's Legal (layer 9).
   Conditions: none on the numbers. -/
import Derived.Test.YtboommppikfgnaaDoorLinLeg
namespace Go.Proofs.YtboommppikfgnaaDoor
open Go Go.RowKit

theorem fitsR_valid {sh : Int} {cs : List RC} {pre : List Int} {id : Int} (h : fitsR sh cs pre id = true) : 0 ≤ id ∧ id < cs.length := by
  unfold fitsR rAt at h
  split at h
  · cases h
  · rename_i c hc
    split at hc
    · have := (List.getElem?_eq_some_iff.1 hc).1
      omega
    · cases hc
theorem fitsTo_valid {sh : Int} {cs : List RC} {ord : List Int} {k : Nat} (h : fitsTo sh cs ord k = true) : ValidR cs (ord.take k) := by
  intro x hx
  obtain ⟨m, hm, he⟩ := List.mem_iff_getElem.1 hx
  rw [List.length_take] at hm
  have hxm : ord[m]? = some x := by
    rw [List.getElem_take] at he
    rw [List.getElem?_eq_getElem (by omega), he]
  have := allTo_at h (k := m) (by omega)
  simp only [hxm] at this
  exact fitsR_valid this
theorem ints_upto {w : World} {B no k : Nat} {Ao : Option Addr} {ord : List Int} {y : Int} (ho : Sl w B 1 Ao no (ints ord)) (hk : k < no) (hy : ord[k]? = some y) : Sl w B 1 Ao (k + 1) (ints (ord.take k ++ [y])) := by
  have h1 := ho.upto (show k + 1 ≤ no by omega)
  have h2 : (ints ord).take ((k + 1) * 1) = ints (ord.take k ++ [y]) := by
    rw [Nat.mul_one, ← take_one ord k y hy]
    unfold ints
    rw [List.map_take]
  rwa [h2] at h1

set_option maxRecDepth 100000 in
set_option maxHeartbeats 3200000 in
theorem ref_legal (sh : Int) {w : World} {B n cc no co : Nat} {A Ao : Option Addr} {cs : List RC} {ord : List Int} (hs : Sl w B 8 A n (cs.flatMap RC.cells)) (ho : Sl w B 1 Ao no (ints ord)) (hB : B ≤ w.heap.size) (hn : cs.length = n) (hn' : n ≤ 1000) (hl : ord.length = no) (hno : no ≤ 800) (hco : no ≤ co) :
    Calls Tryd.prog 21 #[.int .i64 sh, .slice A n cc, .slice Ao no co] w fun e w' => e = .returned (.bool (decide (1 ≤ sh ∧ sh ≤ 4) && legalR sh cs ord)) ∧ Below w.heap.size w w' := by
  have HL := Lib.hid hl
  have HN := Lib.hid hn
  have hlg : legalR sh cs ord = (fitsTo sh cs ord no && wholeTo cs ord n) := by unfold legalR; rw [hl, hn]
  rw [hlg]
  clear hl hn hlg
  by_cases hshape : sh < 1 ∨ 4 < sh
  · have hd : decide (1 ≤ sh ∧ sh ≤ 4) = false := decide_eq_false (by omega)
    have HD := Lib.hid hd
    clear hd
    rcases hshape with h1 | h1
    all_goals
      go_enter Tryd.func21, Tryd.ntmps21
      go_wp2_with fail
      go_ret
      exact ⟨by rw [HD.out]; rfl, Below.refl _ _⟩
  have hd : decide (1 ≤ sh ∧ sh ≤ 4) = true := decide_eq_true (by omega)
  have hd1 : decide (sh < 1) = false := decide_eq_false (by omega)
  have hd4 : decide ((4 : Int) < sh) = false := decide_eq_false (by omega)
  rw [hd, Bool.true_and]
  clear hd hshape
  obtain ⟨b0, hb0⟩ : ∃ b0, w.heap.size = b0 := ⟨_, rfl⟩
  have HB0 := Lib.hid hb0
  rw [hb0] at hB ⊢
  clear hb0
  go_enter Tryd.func21, Tryd.ntmps21
  go_wp2_with fail
  go_loopw [7] (fun i wr => ∃ k : Nat, k ≤ no ∧ i = .int .i64 ((k : Int) + 1) ∧ fitsTo sh cs ord k = true ∧ Below b0 w wr ∧ b0 ≤ wr.heap.size) (fun i _ => no + 1 - (intOf i).toNat)
  case atStart => exact ⟨0, by omega, rfl, rfl, Below.refl _ _, by rw [HB0.out]; exact Nat.le_refl _⟩
  case round =>
    obtain ⟨k, hk, rfl, hft, hbr, hbs⟩ := hrel
    by_cases hlt : k < no
    · obtain ⟨y, hy⟩ : ∃ y, ord[k]? = some y := ⟨_, List.getElem?_eq_getElem (by rw [HL.out]; exact hlt)⟩
      have hup : ∀ W : World, (Instr.sliceAt 29 (.slice Ao no co) none (some (.int .i64 ((k : Int) + 1))) none).run Tryd.prog W = .ok (.slice Ao (k + 1) co) W := run_upto Tryd.underlying29 intSz Ao no co (k + 1) ((k : Int) + 1) (by omega) (by omega)
      have hdl : decide ((k : Int) + 1 ≤ (no : Int)) = true := decide_eq_true (by omega)
      have hsn : fitsTo sh cs ord (k + 1) = fitsR sh cs (ord.take k) y := by
        unfold fitsTo at hft ⊢
        rw [allTo_succ, hft, Bool.true_and]
        simp only [hy]
      have hbad : fitsR sh cs (ord.take k) y = false → fitsTo sh cs ord no = false := fun h => allTo_false _ (k + 1) (by
        show fitsTo sh cs ord (k + 1) = false
        rw [hsn]; exact h) no (by omega)
      have hfit := ref_fits (cc := cc) (co := co) sh (ord.take k) y ((hs.below (hbr.mono hB)).more (Nat.le_trans hB hbs)) ((ints_upto (ho.below (hbr.mono hB)) hlt hy).more (Nat.le_trans hB hbs)) (Nat.le_refl _) HN.out hn' (by rw [List.length_take, HL.out]; omega) (by omega) (by omega) (fitsTo_valid hft)
      obtain ⟨ft, hft2⟩ : ∃ ft, fitsR sh cs (ord.take k) y = ft := ⟨_, rfl⟩
      rw [hft2] at hfit hsn hbad
      have HFIT := Lib.hid hfit
      have HSN := Lib.hid hsn
      have HBAD := Lib.hid hbad
      clear hfit hsn hbad hft2 hft hy
      go_wp2_with fail
      refine HFIT.out.mono ?_
      rintro e w2 ⟨rfl, hb2⟩
      have hb02 := hbr.trans (hb2.mono hbs)
      have hbs2 := Nat.le_trans hbs hb2.size
      cases ft with
      | false =>
        have HB2 := Lib.hid (HBAD.out rfl)
        clear HBAD
        go_wp2_with fail
        go_ret
        exact ⟨by rw [HB2.out]; rfl, hb02⟩
      | true =>
        go_wp2_with fail
        exact ⟨⟨k + 1, by omega, by go_num, HSN.out, hb02, hbs2⟩, by simp [intOf]; omega⟩
    · obtain rfl : k = no := by omega
      have hdl : decide ((k : Int) + 1 ≤ (k : Int)) = false := decide_eq_false (by omega)
      have hwh := ref_whole (cc := cc) (co := co) ((hs.below (hbr.mono hB)).more (Nat.le_trans hB hbs)) ((ho.below (hbr.mono hB)).more (Nat.le_trans hB hbs)) (Nat.le_refl _) HN.out hn' HL.out (by omega)
      have HWH := Lib.hid hwh
      have HFT := Lib.hid hft
      clear hwh hft
      go_wp2_with fail
      refine HWH.out.mono ?_
      rintro e w2 ⟨rfl, rfl⟩
      go_wp2_with fail
      go_ret
      exact ⟨by rw [HFT.out]; rfl, hbr⟩
end Go.Proofs.YtboommppikfgnaaDoor
