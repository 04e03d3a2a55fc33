/- The law SchedEach, walked.
   Conditions: the cell of internal/bytealg.MaxLen holds an int; the table of powers of ten lies as laid. -/
import Derived.Test.YtiihhpmgfmiacaaDoorSchAwake
import Derived.Test.YtiihhpmgfmiacaaDoorSchEa
namespace Go.Proofs.YtiihhpmgfmiacaaDoor
open Go Go.RowKit

theorem Ea5.grown {n5 bw ba bt br bo k c B : Nat} {w5 W W' : World} {Vw : Value} {o : Int} {r : Bool} {row : Option Nat} (E : Ea5 n5 w5 bw ba bt br bo Vw o r k c W) (hg : W.grownBy W' row) (hr : ∀ r, row = some r → B ≤ r) (hB : bw < B ∧ ba < B ∧ bt < B ∧ br < B) : Ea5 n5 w5 bw ba bt br bo Vw o r k c W' := by
  have hn := E.n
  have hlt := E.cw.lt
  refine ⟨E.below.grown hg (by omega) (fun g e => by have := hr g e; omega), hn, E.cw.grown hg ?_, E.ca.grown hg ?_, E.ct.grown hg ?_, E.cr.grown hg ?_, E.co.grown hg ?_⟩ <;> (intro e; have := hr _ e; omega)
theorem pre_self : ∀ L : List Int, L.isPrefixOf L = true
  | [] => rfl
  | x :: L => by simp [List.isPrefixOf, pre_self L]

set_option maxRecDepth 100000 in
set_option maxHeartbeats 4000000 in
theorem law_SchedEach (A : Option Addr) (len cap : Nat) (ps : List Pk) (odd : Int) (m : Int) (w : World) (hb : 0 ≤ odd ∧ odd ≤ 255) (hs : Sl w w.heap.size 2 A len (ps.flatMap Pk.cells)) (hn : ps.length = len) (hm : w.cell? ⟨0, 0, none⟩ = some (.int .i64 m)) (htab : ∀ w', Below w.heap.size w w' → Lib.TabIs Tryd.prog w' "internal/strconv.uint64pow10" .u64 Lib.pow10Tab) :
    Calls Tryd.prog 7 #[.slice A len cap, .int .u8 odd] w fun e w' => e = .returned (.bool true) ∧ Below w.heap.size w w' := by
  have hba : Below w.heap.size w (w.alloc (.cells #[.int .u8 odd] 5)) := (Below.refl _ _).alloc (Nat.le_refl _) _
  have HAW := Lib.hid (law_awake m (w.alloc (.cells #[.int .u8 odd] 5)) (cell_keep hba hm) (fun w' hb' => htab w' (hba.trans (hb'.mono hba.size))))
  have hbo := Blk.new w 5 #[.int .u8 odd]
  have HN := Lib.hid hn
  clear hm htab hn
  by_cases hbig : 60 < len
  · have d : (60 : Int) < (len : Int) := by omega
    go_enter Tryd.func7, Tryd.ntmps7
    go_wp2_with fail
    refine HAW.out.mono ?_
    rintro e w1 ⟨rfl, hb1⟩
    go_wp2_with fail
    go_ret
    exact ⟨rfl, hba.trans (hb1.mono hba.size)⟩
  · have d : ¬ (60 : Int) < (len : Int) := by omega
    go_enter Tryd.func7, Tryd.ntmps7
    go_wp2_with fail
    refine HAW.out.mono ?_
    rintro e w1 ⟨rfl, hb1⟩
    have hb01 := hba.trans (hb1.mono hba.size)
    have hbo1 := hbo.step hb1
    have hs1 := hs.step (Nat.le_refl _) hb01
    go_wp2_with fail
    refine (law_plain A len cap w.heap.size ps w1 hs1 hb01.size HN.out (by omega)).mono ?_
    rintro e w2 ⟨v2, rfl, ho2, hb2⟩
    obtain ⟨A2, c2, rfl, -, -, -⟩ := own_form ho2
    have hb02 := hb01.trans (hb2.mono hb01.size)
    have hs2 := Sl.of_own ho2
    have hbo2 := hbo1.step hb2
    go_wp2_with fail
    refine (ref_all A2 len c2 w2.heap.size ps w2 hs2 (Nat.le_refl _) HN.out (by omega)).mono ?_
    rintro e w3 ⟨v3, rfl, ho3, hb3⟩
    have hb03 := hb02.trans (hb3.mono hb02.size)
    have hbo3 := hbo2.step hb3
    have hs3 := (hs1.below ((hb2.mono hb01.size).trans ((hb3.mono hb2.size).mono hb01.size))).more hb03.size
    generalize hLe : allL ps = L at *
    have HLE := Lib.hid hLe
    obtain ⟨Aw, cw, rfl, -, -, -⟩ := own_form ho3
    have hsw := Sl.of_own ho3
    clear hLe ho3 ho2 hs2 hs1 hbo hbo1 hbo2
    obtain ⟨bo, hboe⟩ : ∃ bo, w.heap.size = bo := ⟨_, rfl⟩
    have hbolt : bo < w3.heap.size := by rw [← hboe]; have := hbo3.lt; exact this
    go_upto_region 8 with (fail)
    have E0 : Ea5 w3.heap.size w3 w3.heap.size (w3.heap.size + 1) (w3.heap.size + 1 + 1) (w3.heap.size + 1 + 1 + 1) bo (.slice Aw L.length cw) odd true 0 0 ((((w3.alloc (.cells #[.slice Aw L.length cw] 39)).alloc (.cells #[.int .i64 0] 3)).alloc (.cells #[.int .i64 0] 3)).alloc (.cells #[.bool true] 4)) :=
      ⟨((((Below.refl _ _).alloc (Nat.le_refl _) _).alloc (by simp) _).alloc (by simp; omega) _).alloc (by simp; omega) _, ⟨hbolt, by omega, by omega, by omega, by omega, by omega⟩,
        (((Blk.new w3 _ _).alloc _).alloc _).alloc _, ((Blk.newAt _ _ _ (by simp)).alloc _).alloc _, (Blk.newAt _ _ _ (by simp)).alloc _, Blk.newAt _ _ _ (by simp), by
          rw [← hboe]; exact (((hbo3.alloc _).alloc _).alloc _).alloc _⟩
    have hb06 := hb03.trans (((((Below.refl w3.heap.size w3).alloc (Nat.le_refl _) (.cells #[.slice Aw L.length cw] 39)).alloc (by simp) (.cells #[.int .i64 0] 3)).alloc (by simp; omega) (.cells #[.int .i64 0] 3)).alloc (by simp; omega) (.cells #[.bool true] 4) |>.mono hb03.size)
    have hsz6 : ((((w3.alloc (.cells #[.slice Aw L.length cw] 39)).alloc (.cells #[.int .i64 0] 3)).alloc (.cells #[.int .i64 0] 3)).alloc (.cells #[.bool true] 4)).heap.size = w3.heap.size + 1 + 1 + 1 + 1 := by simp
    generalize ((((w3.alloc (.cells #[.slice Aw L.length cw] 39)).alloc (.cells #[.int .i64 0] 3)).alloc (.cells #[.int .i64 0] 3)).alloc (.cells #[.bool true] 4)) = w6 at *
    obtain ⟨n5, hn5⟩ : ∃ n5, w3.heap.size = n5 := ⟨_, rfl⟩
    rw [hn5] at hs3 E0 hsz6 hsw hbolt ⊢
    have HSZ := Lib.hid hsz6
    have HLE2 : Hid (allL ps = L) := HLE
    have hs6 := hs3.below E0.below
    have hea := each_in Fence.wide 3 trivial trivial trivial rfl (by omega) 21 #[.pointer (some ⟨n5 + 1 + 1 + 1, 0, none⟩), .pointer (some ⟨n5 + 1, 0, none⟩), .pointer (some ⟨n5, 0, none⟩), .pointer (some ⟨bo, 0, none⟩), .pointer (some ⟨n5 + 1 + 1, 0, none⟩)] trivial (enters_of Tryd.func21 (by kernel_rfl) rfl) len cap n5 A ps w6
      (fun pre c W => Ea5 n5 w3 n5 (n5 + 1) (n5 + 1 + 1) (n5 + 1 + 1 + 1) bo (.slice Aw L.length cw) odd (pre.isPrefixOf L) pre.length c W ∧ c ≤ pre.length)
      (fun pre c W W' row ⟨E, hc⟩ hg hr => ⟨E.grown hg (fun r e => hr r e) (by have := HSZ.out; omega), hc⟩)
      (fun l m pre c x W ⟨E, hc⟩ hl => (ea1_in Fence.wide m trivial rfl n5 n5 (n5 + 1) (n5 + 1 + 1) (n5 + 1 + 1 + 1) bo c w6.heap.size L.length cw w3 W Aw odd L pre x l E hb (by have := HSZ.out; omega) hsw rfl hl hc).mono (by
        rintro e W' ⟨b, rfl, E', K'⟩
        exact ⟨b, rfl, ⟨E', by rw [List.length_append, List.length_cons, List.length_nil]; split <;> omega⟩, K'⟩))
      hs6 (by have := HSZ.out; omega) HN.out (by omega) ⟨E0, Nat.le_refl _⟩
    clear hsz6
    go_wp2_with fail
    refine ((callsIn_wide (n := 3)).1 hea).mono ?_
    rintro e w7 ⟨c, rfl, E7, hc7⟩
    rw [HLE2.out, pre_self] at E7
    have hcr := E7.cr.cells
    have hca := E7.ca.cells
    have hcw := E7.cw.cells
    have hct := E7.ct.cells
    have hb37 := E7.below
    clear E7 hea E0
    go_wp2_with fail
    go_ret
    exact ⟨rfl, hb03.trans (by rw [← hn5] at hb37; exact hb37.mono hb03.size)⟩
end Go.Proofs.YtiihhpmgfmiacaaDoor
