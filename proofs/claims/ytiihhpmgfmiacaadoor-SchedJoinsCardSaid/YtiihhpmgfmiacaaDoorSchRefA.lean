/- Contract of the document's All.
   Conditions: at most 1000 picks. -/
import Derived.Test.YtiihhpmgfmiacaaDoorSchAll
namespace Go.Proofs.YtiihhpmgfmiacaaDoor
open Go Go.RowKit

def intV (x : Int) : Value := .int .i64 x
theorem info_i64 : (Tryd.prog.info? 3).map (fun i => (i.zero, i.size, i.bytes)) = some (some (.int .i64 0), 1, 8) := by kernel_rfl

set_option maxRecDepth 100000 in
set_option maxHeartbeats 1600000 in
theorem ref_all (A : Option Addr) (n c B : Nat) (ps : List Pk) (w : World) (hs : Sl w B 2 A n (ps.flatMap Pk.cells)) (hB : B ≤ w.heap.size) (hn : ps.length = n) (hn' : n ≤ 1000) :
    Calls Tryd.prog 17 #[.slice A n c] w fun e w' => ∃ v, e = .returned v ∧ w'.ownsRow w.heap.size 3 1 v (allL ps).length ((allL ps).map intV) ∧ Below w.heap.size w w' := by
  obtain ⟨iP, hiP, zP, sP, bP⟩ := info_parts info_i64
  have HN := Lib.hid hn
  clear hn
  go_enter Tryd.func17, Tryd.ntmps17
  go_wp2_with fail
  go_loopw [3, 4] (fun out i wr => ∃ (k : Nat) (xs : List Int), k ≤ n ∧ i = .int .i64 k ∧ xs = allL (ps.take k) ∧ wr.ownsRow w.heap.size 3 1 out xs.length (xs.map intV) ∧ Below w.heap.size w wr) (fun _ i _ => n - (intOf i).toNat)
  case atStart => exact ⟨0, [], by omega, rfl, rfl, World.ownsRow_nil _ _ _ _, Below.refl _ _⟩
  case round =>
    obtain ⟨k, xs, hk, rfl, hxs, hown, hbr⟩ := hrel
    have hxl : xs.length ≤ 60000 := by rw [hxs]; exact allSize _ _
    by_cases hlt : k < n
    · obtain ⟨p, hp⟩ : ∃ p, ps[k]? = some p := ⟨_, List.getElem?_eq_getElem (by rw [HN.out]; exact hlt)⟩
      have hsn := allL_snoc ps k p hp
      rw [← hxs] at hsn
      obtain ⟨m, hm⟩ : ∃ m, min p.tm.toNat (60000 - xs.length) = m := ⟨_, rfl⟩
      rw [hm] at hsn
      obtain ⟨X, hX⟩ : ∃ X, xs.length = X := ⟨_, rfl⟩
      rw [hX] at hxl hm hown
      have HX := Lib.hid hX
      have HSN := Lib.hid hsn
      have HM := Lib.hid hm
      have HP := Lib.hid hp
      have hbs := hbr.size
      have hmX : X + m ≤ 60000 := by omega
      clear hxs hsn hm hX hp
      go_wp2_with fail
      go_loopw [3, 5] (fun out v wr => ∃ j L : Nat, j ≤ m ∧ v = .int .i64 j ∧ L = X + j ∧ wr.ownsRow w.heap.size 3 1 out L ((xs ++ List.replicate j p.th).map intV) ∧ Below w.heap.size w wr) (fun _ v _ => m - (intOf v).toNat)
      case atStart => exact ⟨0, X, by omega, rfl, by omega, by simpa using hown, hbr⟩
      case round =>
        obtain ⟨j, L, hj, rfl, hL, hown', hbr'⟩ := hrel
        obtain ⟨A', c', rfl, -, -, -⟩ := own_form hown'
        have hbs' := hbr'.size
        have hs1 := hs.step hB hbr'
        have hidx := hs1.idx (P := Tryd.prog) (c := c) Tryd.underlying26 rpkSz hlt
        obtain ⟨f0, f1⟩ := pk_cells hs1 hlt HP.out
        by_cases hgo : j < m
        · have hjt : (j : Int) < p.tm := by have := HM.out; omega
          have hL6 : (L : Int) < 60000 := by omega
          have d1 : decide ((j : Int) < p.tm) = true := by simpa using hjt
          have hrep : ((xs ++ List.replicate j p.th).map intV) ++ [.int .i64 p.th] = (xs ++ List.replicate (j + 1) p.th).map intV := by
            rw [List.replicate_succ']; simp [intV]
          have HR := Lib.hid hrep
          have HL := Lib.hid hL
          clear hL hrep
          go_upto_region 8 with (fail)
          have hown4 := hown'.alloc (.cells #[.int .i64 p.th] 3)
          generalize ((xs ++ List.replicate j p.th).map intV) = row at *
          go_wp2_with (at_builtin; refine wpList_append_lies _ rfl _ _ _ rfl w.heap.size 3 iP _ 1 8 Tryd.underlying39 hiP zP sP bP rfl (by omega) (.slice A' L c') L row rfl hown4 ⟨wr.heap.size, 0, none⟩ 1 1 [.int .i64 p.th] rfl rfl (World.news_of_block (heap_alloc_new wr _)) (by simp [Value.oneCell']) (by omega) (by unfold maxLen; omega) (by omega) (by simp; omega) (wr.heap.size + 1) (by simp) ?_; intro g cap w9 hown9 hgrow hat hlt9)
          have hgrow' : (wr.alloc (.cells #[.int .i64 p.th] 3)).grownBy w9 (Value.ownBlock (.slice A' L c')) := hgrow
          clear hgrow hat
          go_roundw
          case rel =>
            refine ⟨j + 1, L + 1, by omega, by go_num, by have := HL.out; omega, ?_, ?_⟩
            · rw [← HR.out]; simpa using hown9
            · exact (hbr'.alloc (by omega) _).grown hgrow' (by simp; omega) (fun g0 h0 => (own_at hown' g0 h0).1)
          case measure => simp [intOf]; omega
        · obtain rfl : j = m := by omega
          have hfin : (xs ++ List.replicate j p.th).length = L := by have := HX.out; simp; omega
          have HF := Lib.hid hfin
          by_cases hjt : (j : Int) < p.tm
          · have d1 : decide ((j : Int) < p.tm) = true := by simpa using hjt
            have hL6 : ¬ (L : Int) < 60000 := by have := HM.out; have := HX.out; omega
            clear hL hfin
            go_wp2_with fail
            exact ⟨⟨k + 1, xs ++ List.replicate j p.th, by omega, by go_num, HSN.out.symm, by rw [HF.out]; exact hown', hbr'⟩, by simp [intOf]; omega⟩
          · have d1 : decide ((j : Int) < p.tm) = false := by simpa using hjt
            clear hL hfin
            go_wp2_with fail
            exact ⟨⟨k + 1, xs ++ List.replicate j p.th, by omega, by go_num, HSN.out.symm, by rw [HF.out]; exact hown', hbr'⟩, by simp [intOf]; omega⟩
    · obtain rfl : k = n := by omega
      have ht : ps.take k = ps := List.take_of_length_le (by rw [HN.out]; omega)
      rw [ht] at hxs
      have HX := Lib.hid hxs
      clear hxs ht
      go_wp2_with fail
      go_ret
      exact ⟨_, rfl, by rw [← HX.out]; exact hown, hbr⟩
end Go.Proofs.YtiihhpmgfmiacaaDoor
