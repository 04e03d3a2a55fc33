/- Contract of hist.Of.
   Conditions: at most 1000 events. -/
import Derived.Test.YtboommppikfgnaaDoorHSame
namespace Go.Proofs.YtboommppikfgnaaDoor
open Go Go.RowKit

/-- the first error that the document says of the first k events, else 0 -/
def ofTo (evs : List Ev) : Nat → Int
  | 0 => 0
  | k + 1 => if ofTo evs k = 0 then (match evs[k]? with | some e => Er (HS.run (evs.take k)).evs e | none => 0) else ofTo evs k
theorem ofTo_step {evs : List Ev} {k : Nat} {e : Ev} (he : evs[k]? = some e) (h : ofTo evs k = 0) : ofTo evs (k + 1) = Er (HS.run (evs.take k)).evs e := by simp only [ofTo, he]; rw [if_pos h]
theorem ofTo_stay {evs : List Ev} {k : Nat} (h : ofTo evs k ≠ 0) : ∀ n, ofTo evs (k + n) = ofTo evs k
  | 0 => rfl
  | n + 1 => by
    have ih := ofTo_stay h n
    rw [← Nat.add_assoc]
    simp only [ofTo]
    rw [if_neg (by rw [ih]; exact h), ih]

set_option maxRecDepth 100000 in
set_option maxHeartbeats 1600000 in
theorem hist_of (A : Option Addr) (n c B0 : Nat) (evs : List Ev) (w : World) (hs : Sl w B0 7 A n (evs.flatMap Ev.cells)) (hel : evs.length = n) (hB0 : B0 ≤ w.heap.size) (hn : n ≤ 1000) :
    Calls Tryd.prog 25 #[.slice A n c] w fun r w' => ((ofTo evs n ≠ 0 ∧ r = .returned (.tuple #[.pointer none, .int .i64 (ofTo evs n)])) ∨ (ofTo evs n = 0 ∧ r = .returned (.tuple #[.pointer (some ⟨w.heap.size, 0, none⟩), .int .i64 0]) ∧ HAt w' w.heap.size w.heap.size (HS.run evs))) ∧ Below w.heap.size w w' := by
  have HL := Lib.hid hel
  clear hel
  go_enter Tryd.func25, Tryd.ntmps25
  go_wp2_with fail
  refine (hist_new _).mono ?_
  rintro e w2 ⟨rfl, h2, k2⟩
  have hw2 := k2.size
  have hrun0 : HS.run (evs.take 0) = HS.new := rfl
  rw [← hrun0] at h2
  clear hrun0
  generalize hBb : w.heap.size = B at *
  go_wp2_with fail
  go_loopw [11] (fun i wr => ∃ k : Nat, k ≤ n ∧ i = .int .i64 k ∧ HAt wr B B (HS.run (evs.take k)) ∧ ofTo evs k = 0 ∧ Below B w wr ∧ B ≤ wr.heap.size) (fun i _ => n - (intOf i).toNat)
  case atStart => exact ⟨0, by omega, rfl, h2, rfl, k2, hw2⟩
  case round =>
    obtain ⟨k, hk, rfl, hh, hof, hb, hBr⟩ := hrel
    have hlen : (HS.run (evs.take k)).evs.length ≤ 1000 := by
      have h1 := HS.len_run (evs.take k)
      have h2 := List.length_take_le k evs
      omega
    by_cases hlt : k < n
    · have dk : decide ((k : Int) < (n : Int)) = true := by simp; omega
      obtain ⟨e, he⟩ : ∃ e, evs[k]? = some e := ⟨_, List.getElem?_eq_getElem (by rw [HL.out]; exact hlt)⟩
      have hstep : HS.run (evs.take (k + 1)) = (HS.run (evs.take k)).step e := by
        rw [List.take_add_one, he]; exact HS.run_snoc _ _
      have herr := HS.ref_err (HS.ref_run (evs.take k)) e
      have hnext := ofTo_step he hof
      have hsw := hs.below (hb.mono hB0)
      have hidx := hsw.idx (P := Tryd.prog) (c := c) Tryd.underlying80 hevSz hlt
      obtain ⟨f0, f1, f2, f3, f4, f5, f6⟩ := ev_cells hsw hlt he
      clear he hsw
      generalize HS.run (evs.take k) = s at *
      rw [herr] at hnext
      have HN := Lib.hid hnext
      have HS1 := Lib.hid hstep
      clear hnext hstep herr
      go_upto_region 5 with (fail)
      clear f0 f1 f2 f3 f4 f5 f6 hidx
      have hx := Blk.new wr 64 #[.int .i64 e.th, .bool e.ends, .int .i64 e.kind, .int .i64 e.key, .int .i64 e.code, .bool e.ok, .int .i64 e.val]
      have hb7 := (Below.refl wr.heap.size wr).alloc (Nat.le_refl _) (.cells #[.int .i64 e.th, .bool e.ends, .int .i64 e.kind, .int .i64 e.key, .int .i64 e.code, .bool e.ok, .int .i64 e.val] 64)
      generalize (wr.alloc (.cells #[.int .i64 e.th, .bool e.ends, .int .i64 e.kind, .int .i64 e.key, .int .i64 e.code, .bool e.ok, .int .i64 e.val] 64)) = W7 at *
      have hh7 := hh.step hb7
      have hb' := hb.trans (hb7.mono hBr)
      have hXl := hx.lt
      clear hh hb hb7
      generalize hX : wr.heap.size = X at *
      clear hX
      have cx := hx.cells
      go_wp2_with fail
      refine (hist_add B s B e W7 hh7 (by omega) hlen).mono ?_
      rintro e' w8 ⟨rfl, h8, k8⟩
      clear cx hx
      generalize (if e.ends = true then s.errE e.th else s.errB e.th) = er at *
      by_cases h0 : er = 0
      · subst h0
        have := k8.size
        go_wp2_with fail
        refine ⟨⟨k + 1, by omega, by go_num, by rw [HS1.out]; exact h8, HN.out, hb'.trans k8.below, by omega⟩, ?_⟩
        simp [intOf]; omega
      · have hb0 : (er == 0) = false := by simpa using h0
        have hb1 : (er != 0) = true := by simpa using h0
        have hst := ofTo_stay (evs := evs) (k := k + 1) (by rw [HN.out]; exact h0) (n - (k + 1))
        rw [HN.out, show k + 1 + (n - (k + 1)) = n by omega] at hst
        have HST := Lib.hid hst
        clear hst
        go_wp2_with fail
        refine bodyPost_ret (v := .tuple #[.pointer none, .int .i64 er]) (by simp [results, Tryd.results25, go_sem]) rfl ?_
        rw [hBb]
        exact ⟨.inl ⟨by rw [HST.out]; exact h0, by rw [HST.out]⟩, hb'.trans k8.below⟩
    · have dk : decide ((k : Int) < (n : Int)) = false := by simp; omega
      obtain rfl : k = n := by omega
      rw [List.take_of_length_le (by rw [HL.out]; exact Nat.le_refl _)] at hh
      have HF := Lib.hid hof
      clear hof
      go_wp2_with fail
      refine bodyPost_ret (v := .tuple #[.pointer (some ⟨B, 0, none⟩), .int .i64 0]) (by simp [results, Tryd.results25, go_sem]) rfl ?_
      rw [hBb]
      exact ⟨.inr ⟨HF.out, rfl, hh⟩, hb⟩

end Go.Proofs.YtboommppikfgnaaDoor
