/- Contracts of lin's Behind, Legal.
   Conditions: none on the numbers. -/
import Derived.Test.YtboommppikfgnaaDoorLinLeg
import Derived.Test.YtboommppikfgnaaDoorLinOrder
namespace Go.Proofs.YtboommppikfgnaaDoor
open Go Go.RowKit

theorem intKeyed : Go.Maps.Keyed Tryd.prog 3 := Go.Maps.int_keyed Tryd.underlying3
theorem sl_keep1 {w w' : World} {B sz n : Nat} {A : Option Addr} {xs : List Value} {Z : Nat → Prop} (h : Sl w B sz A n xs) (hB : B ≤ w.heap.size) (k : Kz Z w w') (hZ : 0 < n → Z (ablk A)) : Sl w' B sz A n xs := by
  refine ⟨h.len, h.adr, h.blt, fun j hj => ?_⟩
  have hp := h.pos hj
  have h1 := h.cell j hj
  have hb := k.block (ablk A) (hZ hp) (by have := h.blt hp; omega)
  rw [← h1]
  unfold World.cell?
  simp only [hb]

theorem intMap_below {w w' : World} {mm k : Nat} {D : DataW Unit} (h : w.ownsMap Tryd.prog 3 (plainElem Tryd.prog 3) mm k D) (hb : Below w.heap.size w w') : w'.ownsMap Tryd.prog 3 (plainElem Tryd.prog 3) mm k D := by
  have hlt := h.lt
  obtain ⟨es, clock, h1, h2⟩ := h
  exact ⟨es, clock, (hb.block mm hlt).trans h1, h2⟩

set_option maxRecDepth 100000 in
set_option maxHeartbeats 1600000 in
theorem lin_open2 (sh : Int) (hsh : 1 ≤ sh ∧ sh ≤ 4) (b : Nat) (s : HS) (B0 : Nat) (w : World) (h : HAt w B0 b s) (hsz : s.evs.length ≤ 1000) : Calls Tryd.prog 27 #[.int .i64 sh, .pointer (some ⟨b, 0, none⟩)] w fun e w' =>
    ∃ (bb bs cc : Nat) (A : Option Addr) (Z : Nat → Prop) (V : Value), e = .returned (.tuple #[.pointer (some ⟨bb, 0, none⟩), .pointer (some ⟨bs, 0, none⟩), .bool true]) ∧ Blk w' bb 76 #[.int .i64 sh, .slice A s.calls.length cc, V] ∧ Sl w' w'.heap.size 9 A s.calls.length (s.calls.flatMap HC.cells) ∧
      SAt w' Z bs sh [] ∧ (∀ k, k < w.heap.size → Z k) ∧ Z bb ∧ (0 < s.calls.length → Z (ablk A)) ∧ Below w.heap.size w w' := by
  have hmm := @run_makeMap Tryd.prog
  have hn := spec_New sh hsh w
  go_enter Tryd.func27, Tryd.ntmps27
  go_wp2_with fail
  refine hn.mono ?_
  rintro e w1 ⟨rfl, hs1, hb1⟩
  have h1 := h.step hb1
  go_wp2_with fail
  refine (hist_calls b s B0 w1 h1 hsz).mono ?_
  rintro e w2 ⟨v, rfl, ho, hb2⟩
  obtain ⟨A, cc, rfl, -, -, -⟩ := own_form ho
  have hrow := Sl.of_own ho
  have hs2 := hs1.step hb2
  have hA : 0 < s.calls.length → w1.heap.size ≤ ablk A ∧ ablk A < w2.heap.size := fun h0 => by
    have e1 := hrow.adr h0
    have := own_at ho (ablk A) (by rw [e1]; rfl)
    exact ⟨this.1, hrow.blt h0⟩
  have hb02 := hb1.trans (hb2.mono hb1.size)
  go_wp2_with fail
  have hb24 : Below w2.heap.size w2 ((w2.alloc (.map #[] 0)).alloc (.cells #[.int .i64 sh, .slice A s.calls.length cc, .map (some w2.heap.size)] 76)) := ((Below.refl _ _).alloc (Nat.le_refl _) _).alloc (by simp) _
  refine bodyPost_ret (v := .tuple #[.pointer (some ⟨w2.heap.size + 1, 0, none⟩), .pointer (some ⟨w.heap.size, 0, none⟩), .bool true]) (by simp [results, Tryd.results27, go_sem]) rfl ?_
  exact ⟨w2.heap.size + 1, w.heap.size, cc, A, _, .map (some w2.heap.size), rfl, Blk.newAt _ _ _ (by simp), (hrow.below hb24).more hb24.size, hs2.step hb24, fun k hk => .inl (.inl hk), .inr ⟨by omega, by simp⟩, fun h0 => .inl (.inr (hA h0)), hb02.trans (hb24.mono hb02.size)⟩

/-- what Behind tells -/
def BTold (w' : World) (e : Ending) (ok : Bool) (items : List Int) : Prop :=
  if ok then ∃ A c, e = .returned (.tuple #[.slice A items.length c, .bool true]) ∧ Sl w' w'.heap.size 1 A items.length (ints items) else e = .returned (.tuple #[.slice none 0 0, .bool false])
/-- the map tells where each number stands -/
def AtOk (ord : List Int) (k : Nat) (D : DataW Unit) : Prop := ∀ id c : Int, D.atKey (.int .i64 id) (.lit (.int .i64 0)) = .lit (.int .i64 c) → c = posTo ord k id
theorem AtOk.nil (ord : List Int) : AtOk ord 0 (.map []) := by
  intro id c h
  have : (DataW.map [] : DataW Unit).atKey (.int .i64 id) (.lit (.int .i64 0)) = .lit (.int .i64 0) := rfl
  rw [this] at h
  injection h with h
  injection h with _ h
  exact h.symm
theorem AtOk.put {ord : List Int} {k : Nat} {D : DataW Unit} (h : AtOk ord k D) (hD : Go.Maps.IsMap D) {y : Int} (hy : ord[k]? = some y) : AtOk ord (k + 1) (D.put (.int .i64 y) (.lit (.int .i64 ((k : Int) + 1)))) := by
  intro id c hat
  simp only [posTo]
  by_cases he : id = y
  · subst he
    rw [Go.Maps.atKey_put_same hD (by simp [WideAt.IsKeyLit])] at hat
    injection hat with hat
    injection hat with _ hat
    rw [if_pos hy]; exact hat.symm
  · rw [Go.Maps.atKey_put_other (fun e => he (by injection e))] at hat
    rw [if_neg (fun e => he (by rw [hy] at e; injection e with e; exact e.symm))]
    exact h id c hat

theorem lin_behind_bad (sh : Int) (p : Option Addr) (V : Value) (w : World) (h : (sh < 1 ∨ 4 < sh) ∨ p = none) : Calls Tryd.prog 20 #[.int .i64 sh, .pointer p, V] w fun e w' => e = .returned (.tuple #[.slice none 0 0, .bool false]) ∧ Below w.heap.size w w' := by
  have hn := lin_open_no sh p w h
  go_enter Tryd.func20, Tryd.ntmps20
  go_wp2_with fail
  refine hn.mono ?_
  rintro e w1 ⟨rfl, hb⟩
  go_wp2_with fail
  refine bodyPost_ret (v := .tuple #[.slice none 0 0, .bool false]) (by simp [results, Tryd.results20, go_sem]) rfl ⟨rfl, hb⟩

set_option maxRecDepth 100000 in
set_option maxHeartbeats 8000000 in
theorem lin_behind (sh : Int) (hsh : 1 ≤ sh ∧ sh ≤ 4) (b : Nat) (s : HS) (B0 : Nat) (w : World) (h : HAt w B0 b s) (hg : s.Good) (hsz : s.evs.length ≤ 1000) (hlc : s.calls.length ≤ 1000) (Ao : Option Addr) (no co B : Nat) (ord : List Int) (ho : Sl w B 1 Ao no (ints ord)) (hB : B ≤ w.heap.size) (hl : ord.length = no) (hno : no ≤ 800) :
    Calls Tryd.prog 20 #[.int .i64 sh, .pointer (some ⟨b, 0, none⟩), .slice Ao no co] w fun e w' => BTold w' e (behindL sh s.calls ord) (itemsOf sh (didL s.calls ord)) ∧ Below w.heap.size w w' := by
  have hopen := lin_open2 sh hsh b s B0 w h hsz
  have hnum := numbered_good hg
  obtain ⟨n, hn⟩ : ∃ n, s.calls.length = n := ⟨_, rfl⟩
  obtain ⟨cs, hcs⟩ : ∃ cs, s.calls = cs := ⟨_, rfl⟩
  rw [hcs] at hn hnum hlc
  rw [hcs] at hopen ⊢
  rw [hn] at hopen hlc
  have hmm := @run_makeMap Tryd.prog
  have HN := Lib.hid hn
  have HL := Lib.hid hl
  have hbl : behindL sh cs ord = (passTo sh cs ord no && rowsTo cs ord n) := by unfold behindL; rw [hl, hn]
  have HBL := Lib.hid hbl
  have HNUM := Lib.hid hnum
  clear hn hl hbl hnum hcs h hg hsz
  go_enter Tryd.func20, Tryd.ntmps20
  go_wp2_with fail
  refine hopen.mono ?_
  rintro e w1 ⟨bb, bs, cc, A, Z, V, rfl, hbk, hrow, hsp, hZ, hZb, hZA, hb01⟩
  go_upto_region 5 with (fail)
  have hb12 : Below w1.heap.size w1 (w1.alloc (.map #[] 0)) := (Below.refl _ _).alloc (Nat.le_refl _) _
  have hmap := World.ownsMap_made (H := Unit) w1 Tryd.prog 3 (plainElem Tryd.prog 3)
  have hsp2 := (hsp.step hb12).less (Z' := fun k => Z k ∨ k = w1.heap.size) (fun k hk => by rcases hk with hk | hk; exact .inl hk; exact .inr ⟨by omega, by simp; omega⟩)
  have hbk2 := hbk.step hb12
  have hrow2 := (hrow.below hb12).more hb12.size
  have hbbl := hbk.lt
  have hAl : 0 < n → ablk A < w1.heap.size := hrow.blt
  have hbsl := hsp.lt
  obtain ⟨mm, hmmq⟩ : ∃ mm, w1.heap.size = mm := ⟨_, rfl⟩
  have hb02 := hb01.trans (hb12.mono hb01.size)
  have h0m := hb01.size
  have hms : mm < (w1.alloc (.map #[] 0)).heap.size := by rw [← hmmq]; simp
  rw [hmmq] at hmap hsp2 hAl hbbl hbsl h0m
  clear hsp hbk hrow hb12 hb01
  generalize w1.alloc (.map #[] 0) = w2 at *
  clear hopen hmm
  rw [hmmq]
  clear hmmq
  go_wp2_with fail
  go_loopw [12, 13, 30] (fun t12 t13 i wr => ∃ (k : Nat) (D : DataW Unit), k ≤ no ∧ i = .int .i64 k ∧ passTo sh cs ord k = true ∧ wr.ownsMap Tryd.prog 3 (plainElem Tryd.prog 3) mm k D ∧ AtOk ord k D ∧ SAt wr (fun k => Z k ∨ k = mm) bs sh (itemsOf sh (didL cs (ord.take k))) ∧ Kz (fun g => Z g ∧ g ≠ mm) w2 wr) (fun _ _ i _ => no - (intOf i).toNat)
  case atStart => exact ⟨0, _, by omega, rfl, rfl, hmap, AtOk.nil _, hsp2, Kz.refl _ _⟩
  case round =>
    obtain ⟨k, D, hk, rfl, hpt, hmapr, hat, hspr, hkz⟩ := hrel
    have hb0r : Below w.heap.size w wr := hb02.trans (hkz.below (fun g hg => ⟨hZ g hg, by omega⟩) hb02.size)
    have hbkr := hbk2.kz hkz ⟨hZb, by omega⟩
    have hrowr := (sl_keep1 hrow2 (Nat.le_refl _) hkz (fun h0 => ⟨hZA h0, by have := hAl h0; omega⟩)).more hkz.size
    have hcr := hbkr.cells
    by_cases hlt : k < no
    · obtain ⟨y, hy⟩ : ∃ y, ord[k]? = some y := ⟨_, List.getElem?_eq_getElem (by rw [HL.out]; exact hlt)⟩
      have hor := ho.below (hb0r.mono hB)
      have hidx := hor.idx (P := Tryd.prog) (c := co) Tryd.underlying29 intSz hlt
      have g1 := RowI.at_ hor hlt hy
      simp only [Nat.mul_one] at g1 hidx
      have hbad : passL sh cs (ord.take k) y = false → behindL sh cs ord = false := fun hp => by
        have h1 : passTo sh cs ord (k + 1) = false := by
          unfold passTo
          rw [allTo_succ]
          simp only [hy, hp, Bool.and_false]
        have h2 : passTo sh cs ord no = false := allTo_false _ _ h1 no (by omega)
        rw [HBL.out, h2]; rfl
      have hpl : passL sh cs (ord.take k) y = match cAt cs y with
        | none => false
        | some c => !((ord.take k).contains y) && (c.mayL sh && stepL sh (itemsOf sh (didL cs (ord.take k))) c) := rfl
      by_cases h0 : y < 0
      · have hno : behindL sh cs ord = false := hbad (by rw [hpl]; unfold cAt; rw [if_neg (by omega)])
        have HNO := Lib.hid hno
        clear hno hbad hpl hy hpt hat
        go_wp2_with fail
        refine bodyPost_ret (v := .tuple #[.slice none 0 0, .bool false]) (by simp [results, Tryd.results20, go_sem]) rfl ⟨by rw [HNO.out]; rfl, hb0r⟩
      · have hd0 : decide (y < 0) = false := decide_eq_false h0
        by_cases hn1 : (n : Int) ≤ y
        · have hno : behindL sh cs ord = false := hbad (by rw [hpl]; unfold cAt; rw [if_pos (by omega), List.getElem?_eq_none (by have := HN.out; omega)])
          have HNO := Lib.hid hno
          clear hno hbad hpl hy hpt hat
          go_wp2_with fail
          refine bodyPost_ret (v := .tuple #[.slice none 0 0, .bool false]) (by simp [results, Tryd.results20, go_sem]) rfl ⟨by rw [HNO.out]; rfl, hb0r⟩
        · have hdn : decide ((n : Int) ≤ y) = false := decide_eq_false hn1
          obtain ⟨i, rfl⟩ : ∃ i : Nat, y = (i : Int) := ⟨y.toNat, by omega⟩
          have hin : i < n := by omega
          obtain ⟨c, hc⟩ : ∃ c, cs[i]? = some c := ⟨_, List.getElem?_eq_getElem (by rw [HN.out]; exact hin)⟩
          rw [cAt_nat hc] at hpl
          simp only at hpl
          have hkey : keyOf Tryd.prog 3 (.int .i64 (i : Int)) = some (.int .i64 (i : Int)) := Go.Maps.keyOf_int_mk Tryd.underlying3 (by simp [Lit.wf, IntKind.min, IntKind.max, IntKind.signed, IntKind.bits]; omega)
          obtain ⟨p, hp⟩ : ∃ p, posTo ord k (i : Int) = p := ⟨_, rfl⟩
          have hidc := hrowr.idx (P := Tryd.prog) (c := cc) Tryd.underlying73 hcaSz hin
          obtain ⟨f0, f1, f2, f3, f4, f5, f6, f7, f8⟩ := hc_cells hrowr hin hc
          have HP := Lib.hid hp
          obtain ⟨c3, hrun3, hat3, -⟩ := hmapr.lookup_int intKeyed Tryd.underlying91 Tryd.underlying3 (zeroInt _) hkey
          obtain rfl : c3 = p := (hat _ _ hat3).trans hp
          clear hat3 hp
          by_cases hpp : 0 < c3
          · have hmem : (i : Int) ∈ ord.take k := Classical.byContradiction fun hno => by
              have := posTo_no k hno
              have := HP.out
              omega
            have hno : behindL sh cs ord = false := hbad (by
              rw [hpl, show (ord.take k).contains (i : Int) = true by simpa using hmem]; rfl)
            have HNO := Lib.hid hno
            clear hno hbad hpl hy hpt hat hmem hc
            go_wp2_with fail
            refine bodyPost_ret (v := .tuple #[.slice none 0 0, .bool false]) (by simp [results, Tryd.results20, go_sem]) rfl ⟨by rw [HNO.out]; rfl, hb0r⟩
          · have hnm : (ord.take k).contains (i : Int) = false := by
              rcases Decidable.em ((i : Int) ∈ ord.take k) with h1 | h1
              · obtain ⟨m, hm, he⟩ := List.mem_iff_getElem.1 h1
                rw [List.length_take] at hm
                have hxm : ord[m]? = some (i : Int) := by
                  rw [List.getElem_take] at he
                  rw [List.getElem?_eq_getElem (by omega), he]
                have h2 : ∀ k', m < k' → 0 < posTo ord k' (i : Int) := by
                  intro k'
                  induction k' with
                  | zero => intro h; omega
                  | succ k' ih =>
                    intro h1
                    simp only [posTo]
                    split
                    · omega
                    · rename_i e
                      have : m ≠ k' := fun e2 => e (by subst e2; exact hxm)
                      exact ih (by omega)
                have h3 := h2 k (by omega)
                have := HP.out
                omega
              · simpa using h1
            have hd3 : decide (0 < c3) = false := decide_eq_false hpp
            rw [hnm, Bool.not_false, Bool.true_and] at hpl
            obtain ⟨my, hmy⟩ : ∃ my, c.mayL sh = my := ⟨_, rfl⟩
            obtain ⟨st, hst⟩ : ∃ st, stepL sh (itemsOf sh (didL cs (ord.take k))) c = st := ⟨_, rfl⟩
            rw [hmy, hst] at hpl
            have hmayc := fun (W : World) (hW : Blk W bb 76 #[.int .i64 sh, .slice A n cc, V]) => book_may bb sh (.slice A n cc) V c W hW
            rw [hmy] at hmayc
            have HMAY := Lib.hid hmayc
            have hall := pass_may (sh := sh) (hs := cs) (ord := ord) k (by rw [HL.out]; exact hk) hpt
            have hrise := items_rise sh _ hall
            have hilen : (itemsOf sh (didL cs (ord.take k))).length ≤ 1000 := by
              have h1 := itemsOf_len sh (didL cs (ord.take k))
              have h2 : (didL cs (ord.take k)).length ≤ k := by
                have := opsR_len (cs := cs.map HC.rc) (ord.take k)
                rw [List.length_take] at this
                unfold didL; omega
              omega
            have hstep := fun (W : World) (hW : SAt W (fun k => Z k ∨ k = mm) bs sh (itemsOf sh (didL cs (ord.take k)))) => lin_step c W hW hilen hrise
            rw [hst] at hstep
            have HSTEP := Lib.hid hstep
            have HPL := Lib.hid hpl
            have HBAD := Lib.hid hbad
            have HST := Lib.hid hst
            have HPT := Lib.hid hpt
            have HAT := Lib.hid hat
            have HY := Lib.hid hy
            have HC := Lib.hid hc
            clear hmayc hall hrise hstep hpl hbad hst hmy hpt hat hy hc hnm hpp hilen
            cases my with
            | false =>
              have HNO : Hid (behindL sh cs ord = false) := Lib.hid (HBAD.out (by rw [HPL.out]; rfl))
              go_wp2_with fail
              refine (HMAY.out wr hbkr).mono ?_
              rintro e w4 ⟨rfl, hb4⟩
              have hcr4 := (hbkr.step hb4).cells
              have hb04 := hb0r.trans (hb4.mono hb0r.size)
              go_wp2_with fail
              refine bodyPost_ret (v := .tuple #[.slice none 0 0, .bool false]) (by simp [results, Tryd.results20, go_sem]) rfl ⟨by rw [HNO.out]; rfl, hb04⟩
            | true =>
              go_wp2_with fail
              refine (HMAY.out wr hbkr).mono ?_
              rintro e w4 ⟨rfl, hb4⟩
              have hbk4 := hbkr.step hb4
              have hcr4 := hbk4.cells
              have hrow4 := hrowr.step (Nat.le_refl _) hb4
              have hsp4 := hspr.step' hb4
              have hmap4 : w4.ownsMap Tryd.prog 3 (plainElem Tryd.prog 3) mm k D := by
                have hlt' := hmapr.lt
                obtain ⟨es, clock, h1, h2⟩ := hmapr
                exact ⟨es, clock, (hb4.block mm hlt').trans h1, h2⟩
              have hkz4 := hkz.step hb4
              clear f0 f1 f2 f3 f4 f5 f6 f7 f8
              obtain ⟨f0, f1, f2, f3, f4, f5, f6, f7, f8⟩ := hc_cells hrow4 hin HC.out
              cases st with
              | false =>
                have HNO : Hid (behindL sh cs ord = false) := Lib.hid (HBAD.out (by rw [HPL.out]; rfl))
                go_wp2_with fail
                refine (HSTEP.out w4 hsp4).mono ?_
                rintro e w5 ⟨rfl, hsp5, hkz5⟩
                have hb05 : Below w.heap.size w w5 := (hb0r.trans (hb4.mono hb0r.size)).trans (hkz5.below (fun g hg => .inl (hZ g hg)) (Nat.le_trans hb0r.size hb4.size))
                go_wp2_with fail
                refine bodyPost_ret (v := .tuple #[.slice none 0 0, .bool false]) (by simp [results, Tryd.results20, go_sem]) rfl ⟨by rw [HNO.out]; rfl, hb05⟩
              | true =>
                have hit : spStep sh (itemsOf sh (didL cs (ord.take k))) c.op = itemsOf sh (didL cs (ord.take (k + 1))) := by
                  unfold spStep
                  rw [step_may HST.out, if_pos rfl, take_one ord k (i : Int) HY.out, didL_snoc (by omega) (by rw [Int.toNat_natCast]; exact HC.out), itemsOf_snoc]
                have hpt2 : passTo sh cs ord (k + 1) = true := by
                  have h1 := HPT.out
                  unfold passTo at h1 ⊢
                  rw [allTo_succ, h1, Bool.true_and]
                  simp only [HY.out]
                  exact HPL.out
                have hstepw := HSTEP.out w4 hsp4
                rw [hit] at hstepw
                have HSW := Lib.hid hstepw
                have HPT2 := Lib.hid hpt2
                have HAT2 := Lib.hid (HAT.out.put hmap4.isMap HY.out)
                clear hstepw hpt2 hit HSTEP
                go_wp2_with fail
                refine HSW.out.mono ?_
                rintro e w5 ⟨rfl, hsp5, hkz5⟩
                have hmap5 : w5.ownsMap Tryd.prog 3 (plainElem Tryd.prog 3) mm k D := by
                  have hlt' := hmap4.lt
                  obtain ⟨es, clock, h1, h2⟩ := hmap4
                  exact ⟨es, clock, (hkz5.block mm (.inr rfl) hlt').trans h1, h2⟩
                have hkz05 := hkz4.trans (hkz5.less (fun g hg => .inl hg.1))
                go_wp2_with (at_mapUpdate; refine wpList_mapUpdate_own _ rfl _ _ _ 91 rfl 3 3 intKeyed Tryd.underlying91 _ mm k _ rfl hmap5 (by unfold maxLen; omega) _ _ _ rfl rfl hkey _ [] (plainElem_int Tryd.underlying3 (by simp [Lit.wf, IntKind.min, IntKind.max, IntKind.signed, IntKind.bits]; omega)) ?_; intro w6 hown6 hgrow6)
                have hsp6 := hsp5.grown hgrow6 (.inr rfl)
                have hkz6 := hkz05.grown hgrow6 (fun g e h => by injection e with e; exact h.2 e.symm)
                exact ⟨⟨k + 1, _, by omega, by go_num, HPT2.out, hown6, HAT2.out, hsp6, hkz6⟩, by simp [intOf]; omega⟩
    · obtain rfl : k = no := by omega
      have htk : ord.take k = ord := List.take_of_length_le (by rw [HL.out]; omega)
      rw [htk] at hspr
      have hbl2 : behindL sh cs ord = rowsTo cs ord n := by rw [HBL.out, hpt, Bool.true_and]
      have HBL2 := Lib.hid hbl2
      have HAT : Hid (∀ id c : Int, D.atKey (.int .i64 id) (.lit (.int .i64 0)) = .lit (.int .i64 c) → c = posTo ord ord.length id) := Lib.hid (by rw [HL.out]; exact hat)
      have hilen : (itemsOf sh (didL cs ord)).length ≤ 1000 := by
        have h1 := itemsOf_len sh (didL cs ord)
        have h2 : (didL cs ord).length ≤ k := by
          have := opsR_len (cs := cs.map HC.rc) ord
          unfold didL; have := HL.out; omega
        omega
      clear hbl2 hat hpt htk hkz hb02 hbk2 hrow2 hsp2 hmap
      obtain ⟨wl, rfl⟩ : ∃ wl, wl = wr := ⟨_, rfl⟩
      go_wp2_with fail
      go_loopw [86] (fun i wr => ∃ m : Nat, m ≤ n ∧ i = .int .i64 m ∧ rowsTo cs ord m = true ∧ Below wl.heap.size wl wr) (fun i _ => n - (intOf i).toNat)
      case atStart => exact ⟨0, by omega, rfl, rfl, Below.refl _ _⟩
      case round =>
        obtain ⟨m, hm, rfl, hrows, hbq⟩ := hrel
        have hb0q := hb0r.trans (hbq.mono hb0r.size)
        by_cases hltm : m < n
        · obtain ⟨c, hc⟩ : ∃ c, cs[m]? = some c := ⟨_, List.getElem?_eq_getElem (by rw [HN.out]; exact hltm)⟩
          have hcid : c.id = (m : Int) := HNUM.out m c hc
          have HCID := Lib.hid hcid
          have hbkq := hbkr.step hbq
          have hrowq := hrowr.step (Nat.le_refl _) hbq
          have hcq := hbkq.cells
          have hidm := hrowq.idx (P := Tryd.prog) (c := cc) Tryd.underlying73 hcaSz hltm
          obtain ⟨f0, f1, f2, f3, f4, f5, f6, f7, f8⟩ := hc_cells hrowq hltm hc
          have hsn : rowsTo cs ord (m + 1) = rowOk cs ord m := by
            unfold rowsTo at hrows ⊢
            rw [allTo_succ, hrows, Bool.true_and]
          have hbad : rowOk cs ord m = false → behindL sh cs ord = false := fun h => by
            rw [HBL2.out]
            exact allTo_false _ (m + 1) (by show rowsTo cs ord (m + 1) = false; rw [hsn]; exact h) n (by omega)
          have hrow : rowOk cs ord m = (!(c.must && decide (posTo ord ord.length (m : Int) = 0)) && rowTo cs ord m c n) := by
            unfold rowOk
            rw [hc, HN.out]
          have hkeyx : keyOf Tryd.prog 3 (.int .i64 c.id) = some (.int .i64 c.id) := Go.Maps.keyOf_int_mk Tryd.underlying3 (by rw [HCID.out]; simp [Lit.wf, IntKind.min, IntKind.max, IntKind.signed, IntKind.bits]; omega)
          obtain ⟨x, hx⟩ : ∃ x, posTo ord ord.length (m : Int) = x := ⟨_, rfl⟩
          obtain ⟨mu, hmu⟩ : ∃ mu, c.must = mu := ⟨_, rfl⟩
          rw [hx, hmu] at hrow
          have hlook : ∀ W : World, Below wl.heap.size wl W → (Instr.lookup 91 (.map (some mm)) (.int .i64 c.id) false).run Tryd.prog W = .ok (.int .i64 x) W := fun W hW => by
            obtain ⟨c3, hrun3, hat3, -⟩ := (intMap_below hmapr hW).lookup_int intKeyed Tryd.underlying91 Tryd.underlying3 (zeroInt _) hkeyx
            obtain rfl : c3 = x := (HAT.out _ _ hat3).trans (by rw [HCID.out, hx])
            exact hrun3
          have hmuc := fun W => lin_must c W
          rw [hmu] at hmuc
          have HLOOK := Lib.hid hlook
          have HMUC := Lib.hid hmuc
          have HX := Lib.hid hx
          have HROW := Lib.hid hrow
          have HSN := Lib.hid hsn
          have HBAD := Lib.hid hbad
          have HC := Lib.hid hc
          clear hlook hmuc hx hrow hsn hbad hc hmu hcid hrows hkeyx
          go_upto_region 15 with (fail)
          have hb3 : Below wr.heap.size wr (wr.alloc (.cells #[.int .i64 c.began, .int .i64 c.ended, .int .i64 c.id, .int .i64 c.th, .int .i64 c.kind, .int .i64 c.key, .int .i64 c.code, .bool c.ok, .int .i64 c.val] 88)) := (Below.refl _ _).alloc (Nat.le_refl _) _
          have hx3 := Blk.new wr 88 #[.int .i64 c.began, .int .i64 c.ended, .int .i64 c.id, .int .i64 c.th, .int .i64 c.kind, .int .i64 c.key, .int .i64 c.code, .bool c.ok, .int .i64 c.val]
          obtain ⟨X, hX⟩ : ∃ X, wr.heap.size = X := ⟨_, rfl⟩
          rw [hX] at hx3
          clear hidm f0 f1 f2 f3 f4 f5 f6 f7 f8
          generalize (wr.alloc (.cells #[.int .i64 c.began, .int .i64 c.ended, .int .i64 c.id, .int .i64 c.th, .int .i64 c.kind, .int .i64 c.key, .int .i64 c.code, .bool c.ok, .int .i64 c.val] 88)) = w3 at *
          rw [hX]
          have hc3 := hx3.cells
          have hbq3 := hbq.trans (hb3.mono hbq.size)
          go_wp2_with fail
          refine (HMUC.out w3).mono ?_
          rintro e w4 ⟨rfl, hb4⟩
          have hx4 := hx3.step hb4
          have hc4 := hx4.cells
          have hbq4 := hbq3.trans (hb4.mono hbq3.size)
          have hb04 := hb0r.trans (hbq4.mono hb0r.size)
          have hrun4 := HLOOK.out w4 hbq4
          have hbk4 := hbkr.step hbq4
          have hcb4 := hbk4.cells
          clear hc3 hcq hX
          have hcase : (mu = true ∧ x = 0) ∨ (mu = true ∧ ¬ x = 0) ∨ mu = false := by
            cases mu
            · exact .inr (.inr rfl)
            · by_cases h : x = 0
              · exact .inl ⟨rfl, h⟩
              · exact .inr (.inl ⟨rfl, h⟩)
          rcases hcase with ⟨rfl, rfl⟩ | ⟨rfl, hx0⟩ | rfl
          case inl =>
            have HNO : Hid (behindL sh cs ord = false) := Lib.hid (HBAD.out (by rw [HROW.out]; rfl))
            go_wp2_with fail
            refine bodyPost_ret (v := .tuple #[.slice none 0 0, .bool false]) (by simp [results, Tryd.results20, go_sem]) rfl ⟨by rw [HNO.out]; rfl, hb04⟩
          case' inr.inl =>
            have hxb : (x == 0) = false := beq_eq_false_iff_ne.2 hx0
            have HROW2 : Hid (rowOk cs ord m = rowTo cs ord m c n) := Lib.hid (by rw [HROW.out, decide_eq_false hx0]; rfl)
            have HX0 := Lib.hid hx0
            clear hx0
          case' inr.inr =>
            have HROW2 : Hid (rowOk cs ord m = rowTo cs ord m c n) := Lib.hid (by rw [HROW.out]; rfl)
          all_goals
            clear HROW
            go_wp2_with fail
            clear hrun4 hc4 hcb4
            go_loopw [104] (fun i wr => ∃ j : Nat, j ≤ n ∧ i = .int .i64 j ∧ rowTo cs ord m c j = true ∧ Below w4.heap.size w4 wr) (fun i _ => n - (intOf i).toNat)
            case atStart => exact ⟨0, by omega, rfl, rfl, Below.refl _ _⟩
            case round =>
              obtain ⟨j, hj, rfl, hrt, hbj⟩ := hrel
              have hblr := hbq4.trans (hbj.mono hbq4.size)
              have hb0j := hb0r.trans (hblr.mono hb0r.size)
              by_cases hltj : j < n
              · obtain ⟨d, hd⟩ : ∃ d, cs[j]? = some d := ⟨_, List.getElem?_eq_getElem (by rw [HN.out]; exact hltj)⟩
                have hdid : d.id = (j : Int) := HNUM.out j d hd
                have HDID := Lib.hid hdid
                have hrowj := hrowr.step (Nat.le_refl _) hblr
                have hidj := hrowj.idx (P := Tryd.prog) (c := cc) Tryd.underlying73 hcaSz hltj
                obtain ⟨f0, f1, f2, f3, f4, f5, f6, f7, f8⟩ := hc_cells hrowj hltj hd
                have hkeyy : keyOf Tryd.prog 3 (.int .i64 d.id) = some (.int .i64 d.id) := Go.Maps.keyOf_int_mk Tryd.underlying3 (by rw [HDID.out]; simp [Lit.wf, IntKind.min, IntKind.max, IntKind.signed, IntKind.bits]; omega)
                obtain ⟨y, hy⟩ : ∃ y, posTo ord ord.length (j : Int) = y := ⟨_, rfl⟩
                have hlooky : ∀ W : World, Below wl.heap.size wl W → (Instr.lookup 91 (.map (some mm)) (.int .i64 d.id) false).run Tryd.prog W = .ok (.int .i64 y) W := fun W hW => by
                  obtain ⟨c3, hrun3, hat3, -⟩ := (intMap_below hmapr hW).lookup_int intKeyed Tryd.underlying91 Tryd.underlying3 (zeroInt _) hkeyy
                  obtain rfl : c3 = y := (HAT.out _ _ hat3).trans (by rw [HDID.out, hy])
                  exact hrun3
                have hsn2 : rowTo cs ord m c (j + 1) = !(decide (0 < x) && (decide (x < y) && d.bef c)) := by
                  unfold rowTo at hrt ⊢
                  rw [allTo_succ, hrt, Bool.true_and]
                  simp only [hd]
                  unfold pairOk
                  rw [HX.out, hy]
                have hbad2 : rowTo cs ord m c (j + 1) = false → behindL sh cs ord = false := fun h => HBAD.out (by
                  rw [HROW2.out]
                  exact allTo_false _ (j + 1) h n (by omega))
                have hspan := fun W => span_before d.began d.ended c.began c.ended W
                have hbs : spanB d.ended c.began = d.bef c := bef_span c d
                obtain ⟨sb, hsb⟩ : ∃ sb, d.bef c = sb := ⟨_, rfl⟩
                rw [hbs, hsb] at hspan
                rw [hsb] at hsn2
                have HSP := Lib.hid hspan
                have HSN2 := Lib.hid hsn2
                have HBAD2 := Lib.hid hbad2
                have HLY := Lib.hid hlooky
                clear hspan hsn2 hbad2 hlooky hbs hsb hd hdid hrt hy hkeyy
                go_upto_region 20 with (fail)
                have hb5 : Below wr.heap.size wr (wr.alloc (.cells #[.int .i64 d.began, .int .i64 d.ended, .int .i64 d.id, .int .i64 d.th, .int .i64 d.kind, .int .i64 d.key, .int .i64 d.code, .bool d.ok, .int .i64 d.val] 88)) := (Below.refl _ _).alloc (Nat.le_refl _) _
                have hy5 := Blk.new wr 88 #[.int .i64 d.began, .int .i64 d.ended, .int .i64 d.id, .int .i64 d.th, .int .i64 d.kind, .int .i64 d.key, .int .i64 d.code, .bool d.ok, .int .i64 d.val]
                have hx5 := (hx4.step hbj).alloc (.cells #[.int .i64 d.began, .int .i64 d.ended, .int .i64 d.id, .int .i64 d.th, .int .i64 d.kind, .int .i64 d.key, .int .i64 d.code, .bool d.ok, .int .i64 d.val] 88)
                obtain ⟨Y, hY⟩ : ∃ Y, wr.heap.size = Y := ⟨_, rfl⟩
                rw [hY] at hy5
                clear hidj f0 f1 f2 f3 f4 f5 f6 f7 f8
                generalize (wr.alloc (.cells #[.int .i64 d.began, .int .i64 d.ended, .int .i64 d.id, .int .i64 d.th, .int .i64 d.kind, .int .i64 d.key, .int .i64 d.code, .bool d.ok, .int .i64 d.val] 88)) = w5 at *
                rw [hY]
                have hbl5 := hblr.trans (hb5.mono hblr.size)
                have hb45 := hbj.trans (hb5.mono hbj.size)
                have hb05 := hb0r.trans (hbl5.mono hb0r.size)
                have cx5 := hx5.cells
                have cy5 := hy5.cells
                have rx5 := HLOOK.out w5 hbl5
                have ry5 := HLY.out w5 hbl5
                clear hY
                have hcase : (¬ 0 < x) ∨ (0 < x ∧ ¬ x < y) ∨ (0 < x ∧ x < y) := by omega
                rcases hcase with h1 | ⟨h1, h2⟩ | ⟨h1, h2⟩
                · have hdx : decide (0 < x) = false := decide_eq_false h1
                  have HGO : Hid (rowTo cs ord m c (j + 1) = true) := Lib.hid (by rw [HSN2.out, hdx]; rfl)
                  clear h1
                  go_wp2_with fail
                  exact ⟨⟨j + 1, by omega, by go_num, HGO.out, hb45⟩, by simp [intOf]; omega⟩
                · have hdy : decide (x < y) = false := decide_eq_false h2
                  have HGO : Hid (rowTo cs ord m c (j + 1) = true) := Lib.hid (by rw [HSN2.out, hdy]; simp)
                  clear h2
                  go_wp2_with fail
                  exact ⟨⟨j + 1, by omega, by go_num, HGO.out, hb45⟩, by simp [intOf]; omega⟩
                · cases sb with
                  | true =>
                    have HNO : Hid (behindL sh cs ord = false) := Lib.hid (HBAD2.out (by rw [HSN2.out, decide_eq_true h1, decide_eq_true h2]; rfl))
                    go_wp2_with fail
                    refine (HSP.out w5).mono ?_
                    rintro e w6 ⟨rfl, hb6⟩
                    have hb06 := hb05.trans (hb6.mono hb05.size)
                    go_wp2_with fail
                    refine bodyPost_ret (v := .tuple #[.slice none 0 0, .bool false]) (by simp [results, Tryd.results20, go_sem]) rfl ⟨by rw [HNO.out]; rfl, hb06⟩
                  | false =>
                    have HGO : Hid (rowTo cs ord m c (j + 1) = true) := Lib.hid (by rw [HSN2.out]; simp)
                    go_wp2_with fail
                    refine (HSP.out w5).mono ?_
                    rintro e w6 ⟨rfl, hb6⟩
                    have hb46 := hb45.trans (hb6.mono hb45.size)
                    go_wp2_with fail
                    exact ⟨⟨j + 1, by omega, by go_num, HGO.out, hb46⟩, by simp [intOf]; omega⟩
              · obtain rfl : j = n := by omega
                have HGO : Hid (rowsTo cs ord (m + 1) = true) := Lib.hid (by rw [HSN.out, HROW2.out]; exact hrt)
                clear hrt
                go_wp2_with fail
                exact ⟨⟨m + 1, by omega, by go_num, HGO.out, hblr⟩, by simp [intOf]; omega⟩
        · obtain rfl : m = n := by omega
          have HYES : Hid (behindL sh cs ord = true) := Lib.hid (by rw [HBL2.out]; exact hrows)
          have hspq := hspr.step' hbq
          clear hrows
          go_wp2_with fail
          refine (bag_Items hspq hilen).mono ?_
          rintro e w3 ⟨v, rfl, hown, hb3⟩
          obtain ⟨A3, c3, rfl, -, -, -⟩ := own_form hown
          have hb03 := hb0q.trans (hb3.mono hb0q.size)
          go_wp2_with fail
          refine bodyPost_ret (v := .tuple #[.slice A3 (itemsOf sh (didL cs ord)).length c3, .bool true]) (by simp [results, Tryd.results20, go_sem]) rfl ⟨?_, hb03⟩
          rw [HYES.out]
          exact ⟨A3, c3, rfl, Sl.of_own hown⟩
end Go.Proofs.YtboommppikfgnaaDoor
