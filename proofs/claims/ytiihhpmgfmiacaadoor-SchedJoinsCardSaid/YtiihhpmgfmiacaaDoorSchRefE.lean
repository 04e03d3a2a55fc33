/- Contract of the document's Entry (layer 20).
   Conditions: none. -/
import Derived.Test.YtiihhpmgfmiacaaDoorSchRefN
import Derived.Test.YtiihhpmgfmiacaaDoorSchEnt
namespace Go.Proofs.YtiihhpmgfmiacaaDoor
open Go Go.RowKit

theorem occ1 (l : List UInt8) (c : UInt8) (j : Nat) : Lib.occAt l [c] j = decide (l[j]? = some c) := by
  unfold Lib.occAt
  cases h : l.drop j with
  | nil =>
    have : l[j]? = none := by
      have := congrArg (fun x => x[0]?) h
      simpa using this
    rw [this]; simp
  | cons b r =>
    have h2 : l[j]? = some b := by
      have := congrArg (fun x => x[0]?) h
      simpa using this
    rw [h2]
    by_cases hb : c = b
    · subst hb; simp [List.isPrefixOf]
    · have hb' : ¬ b = c := fun e => hb e.symm
      simp [List.isPrefixOf, hb, hb']
theorem cut_hit (l : List UInt8) (k : Nat) (h : l[k]? = some 42) (hno : ∀ j, j < k → l[j]? ≠ some 42) : Lib.cut l [42] = (l.take k, l.drop (k + 1), true) := by
  have hk : k < l.length := (List.getElem?_eq_some_iff.1 h).1
  have hi : Lib.index l [42] = (k : Int) := Lib.index_first (by omega) (by rw [occ1]; simpa using h) (fun j hj => by rw [occ1]; simpa using hno j hj)
  unfold Lib.cut
  rw [hi, if_pos (by omega)]
  simp
theorem cut_miss (l : List UInt8) (hno : ∀ j, j < l.length → l[j]? ≠ some 42) : Lib.cut l [42] = (l, [], false) := by
  have hi : Lib.index l [42] = -1 := Lib.index_none (fun j hj => by
    rw [occ1, decide_eq_false]
    by_cases h : j < l.length
    · exact hno j h
    · rw [List.getElem?_eq_none (by omega)]; simp)
  unfold Lib.cut
  rw [hi, if_neg (by omega)]
theorem numI_ok (l : List UInt8) : (numL l).isSome = decide (0 ≤ numI l) ∧ ((numL l).isSome = true → ((numL l).getD 0 : Nat) = numI l) ∧ -1 ≤ numI l := by
  unfold numI
  cases h : numL l with
  | none => simp
  | some n => exact ⟨by simp, by simp, by show (-1 : Int) ≤ (n : Int); omega⟩
theorem ref_number_is (s : ByteArray) (r : Int) (h : numI s.data.toList = r) (w : World) : Calls Tryd.prog 34 #[.string s] w fun e w' => e = .returned (.int .i64 r) ∧ Below w.heap.size w w' := by
  subst h
  exact ref_number s w

theorem pick_fin2 {T : TypeId} {w W : World} (hx : Blk W w.heap.size T #[.int .i64 0, .int .i64 0]) (hb : Below w.heap.size w W) (x y : Value) :
    Blk ((W.setCell ⟨w.heap.size, 0, none⟩ x).setCell ⟨w.heap.size, 1, none⟩ y) w.heap.size T #[x, y] ∧ Below w.heap.size w ((W.setCell ⟨w.heap.size, 0, none⟩ x).setCell ⟨w.heap.size, 1, none⟩ y) :=
  ⟨(hx.set_ 0 x).set_ 1 y, (hb.setCell (p := ⟨w.heap.size, 0, none⟩) (Nat.le_refl _) _).setCell (p := ⟨w.heap.size, 1, none⟩) (Nat.le_refl _) _⟩

set_option maxRecDepth 100000 in
set_option maxHeartbeats 1600000 in
theorem ref_entry (s : ByteArray) (w : World) (hs : s.size ≤ 1000000) : Calls Tryd.prog 25 #[.string s] w fun e w' => ∃ x y : Int, e = .returned (.tuple #[.agg #[.int .i64 x, .int .i64 y], .bool (entOk s.data.toList)]) ∧ (entOk s.data.toList = true → x = entTh s.data.toList ∧ y = entTm s.data.toList) ∧ Below w.heap.size w w' := by
  have HL : Hid (s.size = s.data.toList.length) := Lib.size_eq s
  have hx := Blk.new w 34 #[.int .i64 0, .int .i64 0]
  have hb : Below w.heap.size w (w.alloc (.cells #[.int .i64 0, .int .i64 0] 34)) := (Below.refl _ _).alloc (Nat.le_refl _) _
  go_enter Tryd.func25, Tryd.ntmps25
  go_upto_region 1 with (fail)
  generalize (w.alloc (.cells #[.int .i64 0, .int .i64 0] 34)) = W at *
  have hlt := hx.lt
  go_wp2_with fail
  go_loop [4] (fun i => ∃ k : Nat, k ≤ s.size ∧ i = .int .i64 k ∧ ∀ j, j < k → s.data.toList[j]? ≠ some 42) (fun i => s.size - (intOf i).toNat)
  case atStart => exact ⟨0, Nat.zero_le _, rfl, fun j hj => by omega⟩
  case round =>
    obtain ⟨k, hk, rfl, hno⟩ := hrel
    by_cases h : k < s.size
    · have hc : s.data.toList[k]? = some s[k] := by
        have hlt : k < s.data.size := h
        rw [Array.getElem?_toList, Array.getElem?_eq_getElem hlt]
        rfl
      by_cases h42 : s[k] = 42
      · have d42 : ((s[k].toNat : Int) == 42) = true := by rw [h42]; rfl
        rw [h42] at hc
        have hcut := Lib.hid (cut_hit s.data.toList k hc hno)
        clear hno hc h42
        obtain ⟨na, hna⟩ : ∃ r, numI (s.data.toList.take k) = r := ⟨_, rfl⟩
        obtain ⟨nb, hnb⟩ : ∃ r, numI (s.data.toList.drop (k + 1)) = r := ⟨_, rfl⟩
        obtain ⟨a1, a2, a3⟩ := numI_ok (s.data.toList.take k)
        obtain ⟨b1, b2, b3⟩ := numI_ok (s.data.toList.drop (k + 1))
        rw [hna] at a1 a2 a3
        rw [hnb] at b1 b2 b3
        have hOk : entOk s.data.toList = (decide (0 ≤ na) && decide (0 ≤ nb)) := by unfold entOk; rw [hcut.out]; simp only [if_true]; rw [a1, b1]
        have hVal : entOk s.data.toList = true → na = entTh s.data.toList ∧ nb = entTm s.data.toList := fun h => by
          rw [hOk, Bool.and_eq_true] at h
          unfold entTh entTm
          rw [hcut.out]
          simp only [if_true]
          exact ⟨(a2 (a1.trans h.1)).symm, (b2 (b1.trans h.2)).symm⟩
        have c1 : numI (s.extract 0 k).data.toList = na := by rw [Lib.extract_from_zero]; exact hna
        have c2 : numI (s.extract (k + 1) s.size).data.toList = nb := by
          rw [Lib.extract_data, List.take_of_length_le (by rw [List.length_drop, ← HL.out]; omega)]; exact hnb
        have HOk := Lib.hid hOk
        have HVal := Lib.hid hVal
        have C1 := Lib.hid c1
        have C2 := Lib.hid c2
        clear hOk hVal c1 c2 a1 a2 b1 b2 hna hnb hcut
        go_wp2_with fail
        refine (ref_number_is _ na C1.out _).mono ?_
        rintro e w1 ⟨rfl, hb1⟩
        have hx1 := hx.step hb1
        have hb01 := hb.trans (hb1.mono hb.size)
        go_wp2_with fail
        refine (ref_number_is _ nb C2.out _).mono ?_
        rintro e w2 ⟨rfl, hb2⟩
        have hx2 := hx1.step hb2
        have hb02 := hb01.trans (hb2.mono hb01.size)
        clear hx1 hb01 hx hb hb1 hb2
        have hy0 := hx2.frozen 0
        have hy1 := hx2.frozen 1
        have hc := hx2.cells
        by_cases hgo : 0 ≤ na ∧ 0 ≤ nb
        · obtain ⟨f1, f2⟩ := pick_fin2 hx2 hb02 (.int .i64 na) (.int .i64 nb)
          have hc' := f1.cells
          have dn : decide (na < 0) = false := by simp; omega
          have dn2 : decide (nb < 0) = false := by simp; omega
          have hok : Hid (entOk s.data.toList = true) := by show entOk _ = _; rw [HOk.out]; simp; omega
          clear f1 hx2 hb02 hgo
          go_wp2_with fail
          generalize ((w2.setCell ⟨w.heap.size, 0, none⟩ (.int .i64 na)).setCell ⟨w.heap.size, 1, none⟩ (.int .i64 nb)) = W2 at *
          exact bodyPost_ret (v := .tuple #[.agg #[.int .i64 na, .int .i64 nb], .bool true]) (by simp [results, Tryd.results25, go_sem, hc']) rfl ⟨na, nb, by rw [hok.out], HVal.out, f2⟩
        · obtain ⟨f1, f2⟩ := pick_fin2 hx2 hb02 (.int .i64 0) (.int .i64 0)
          have hc' := f1.cells
          have hok : Hid (entOk s.data.toList = false) := by show entOk _ = _; rw [HOk.out, ← Bool.not_eq_true]; simp; omega
          clear f1 hx2 hb02
          by_cases hn0 : na < 0
          · have dn : decide (na < 0) = true := by simpa using hn0
            clear hgo hn0
            go_wp2_with fail
            generalize ((w2.setCell ⟨w.heap.size, 0, none⟩ (.int .i64 0)).setCell ⟨w.heap.size, 1, none⟩ (.int .i64 0)) = W2 at *
            exact bodyPost_ret (v := .tuple #[.agg #[.int .i64 0, .int .i64 0], .bool false]) (by simp [results, Tryd.results25, go_sem, hc']) rfl ⟨0, 0, by rw [hok.out], (fun h => by rw [hok.out] at h; cases h), f2⟩
          · have dn : decide (na < 0) = false := by simpa using hn0
            have dn2 : decide (nb < 0) = true := by simp; omega
            clear hgo hn0
            go_wp2_with fail
            generalize ((w2.setCell ⟨w.heap.size, 0, none⟩ (.int .i64 0)).setCell ⟨w.heap.size, 1, none⟩ (.int .i64 0)) = W2 at *
            exact bodyPost_ret (v := .tuple #[.agg #[.int .i64 0, .int .i64 0], .bool false]) (by simp [results, Tryd.results25, go_sem, hc']) rfl ⟨0, 0, by rw [hok.out], (fun h => by rw [hok.out] at h; cases h), f2⟩
      · have d42 : ((s[k].toNat : Int) == 42) = false := by
          rw [beq_eq_false_iff_ne]
          intro e
          apply h42
          apply UInt8.toNat_inj.1
          show s[k].toNat = 42
          omega
        have HNo : Hid (∀ j, j < k → s.data.toList[j]? ≠ some 42) := hno
        have HC := Lib.hid hc
        clear hno hc
        go_wp2_with fail
        refine ⟨⟨k + 1, h, by simp, fun j hj => ?_⟩, ?_⟩
        · by_cases hjk : j = k
          · subst hjk; rw [HC.out]; simpa using h42
          · exact HNo.out j (by omega)
        · simp [intOf] <;> omega
    · have hcut := Lib.hid (cut_miss s.data.toList (fun j hj => hno j (by have := HL.out; omega)))
      clear hno
      obtain ⟨na, hna⟩ : ∃ r, numI s.data.toList = r := ⟨_, rfl⟩
      obtain ⟨a1, a2, a3⟩ := numI_ok s.data.toList
      rw [hna] at a1 a2 a3
      have hOk : entOk s.data.toList = decide (0 ≤ na) := by unfold entOk; rw [hcut.out]; simp [a1]
      have hVal : entOk s.data.toList = true → na = entTh s.data.toList ∧ (1 : Int) = entTm s.data.toList := fun h => by
        rw [hOk] at h
        unfold entTh entTm
        rw [hcut.out]
        exact ⟨(a2 (a1.trans h)).symm, rfl⟩
      have HOk := Lib.hid hOk
      have HVal := Lib.hid hVal
      have C1 := Lib.hid hna
      clear hOk hVal a1 a2 hna hcut
      go_wp2_with fail
      refine (ref_number_is _ na C1.out _).mono ?_
      rintro e w2 ⟨rfl, hb1⟩
      have hx2 := hx.step hb1
      have hb02 := hb.trans (hb1.mono hb.size)
      clear hx hb hb1
      have hy0 := hx2.frozen 0
      have hy1 := hx2.frozen 1
      have hc := hx2.cells
      obtain ⟨f1, f2⟩ := pick_fin2 hx2 hb02 (.int .i64 na) (.int .i64 1)
      have hc' := f1.cells
      clear f1 hx2 hb02
      go_wp2_with fail
      generalize ((w2.setCell ⟨w.heap.size, 0, none⟩ (.int .i64 na)).setCell ⟨w.heap.size, 1, none⟩ (.int .i64 1)) = W2 at *
      exact bodyPost_ret (v := .tuple #[.agg #[.int .i64 na, .int .i64 1], .bool (decide (0 ≤ na))]) (by simp [results, Tryd.results25, go_sem, hc']) rfl ⟨na, 1, by rw [HOk.out], HVal.out, f2⟩
end Go.Proofs.YtiihhpmgfmiacaaDoor
