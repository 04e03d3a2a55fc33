/- Contract of the laws' Make: a history of those events that can be taken, and they.
   Conditions: at most 60 events. -/
import Derived.Test.YtboommppikfgnaaDoorLinOrder
import Derived.Test.YtboommppikfgnaaDoorHRefW
import Derived.Test.YtboommppikfgnaaDoorEvRows
namespace Go.Proofs.YtboommppikfgnaaDoor
open Go Go.RowKit

/-- the history and the events that were taken -/
structure MakeOk (took : List Ev) (s : HS) : Prop where
  ref : s.Ref
  rc : rcalls took = s.calls.map HC.rc
  pd : ∀ t, Pd took t = Pd s.evs t
  len : took.length = s.evs.length
theorem make_new : MakeOk [] HS.new := ⟨HS.ref_new, rfl, fun _ => rfl, rfl⟩
theorem Er_pd {a b : List Ev} (h : ∀ t, Pd a t = Pd b t) (e : Ev) : Er a e = Er b e := by unfold Er; rw [h]
theorem bare_th (e : Ev) : (bareE e).th = e.th ∧ (bareE e).ends = e.ends := by
  unfold bareE
  cases h : e.ends <;> simp [evB, evE]
theorem make_step {took : List Ev} {s : HS} (h : MakeOk took s) (e : Ev) (he : Er took e = 0) : MakeOk (took ++ [e]) (s.step e) := by
  have he2 : Er s.evs e = 0 := by rw [← Er_pd h.pd]; exact he
  obtain ⟨r2, ev2⟩ := HS.ref_step h.ref e
  rw [if_pos he2] at ev2
  obtain ⟨b1, b2⟩ := bare_th e
  refine ⟨r2, ?_, fun t => ?_, by rw [ev2]; simp [h.len]⟩
  · rw [r2.rc, ev2, rcalls_snoc, rcalls_snoc, h.rc, ← h.ref.rc, h.len, b2]
    congr 1
    · refine List.map_congr_left fun c hc => ?_
      obtain ⟨d, hd, rfl⟩ := List.mem_map.1 hc
      unfold RC.last
      rw [b1]
      cases hen : e.ends with
      | true =>
        have : bareE e = evE e.th e.code e.ok e.val := by unfold bareE; rw [hen]; rfl
        rw [this]; rfl
      | false =>
        have hno : ¬ (d.rc.ended < 0 ∧ e.th = d.rc.th) := by
          rintro ⟨h1, h2⟩
          obtain ⟨i, hi, hie⟩ := List.mem_iff_getElem.1 hd
          have e1 : s.calls[i]? = some d := by rw [List.getElem?_eq_getElem hi, hie]
          have hr := h.ref.good.rng i d e1
          have hp := (h.ref.good.pend i d e1).1 h1
          have hth : e.th = d.th := h2
          have hpd : s.pend e.th = true := by
            unfold HS.pend
            rw [hth, hp]
            have h3 : 0 ≤ d.th ∧ d.th < 8 := ⟨hr.1, hr.2.1⟩
            simp [h3.1, h3.2]
          have := h.ref.pd e.th
          rw [hpd] at this
          unfold Er at he2
          have h4 : ¬ (e.th < 0 ∨ 7 < e.th) := by rw [hth]; omega
          rw [if_neg h4, if_pos ⟨hen, this.symm⟩] at he2
          cases he2
        rw [if_neg hno, if_neg hno]
    · cases hen : e.ends with
      | true => rfl
      | false =>
        have : bareE e = evB e.th e.kind e.key := by unfold bareE; rw [hen]; rfl
        rw [this]; rfl
  · rw [ev2, Pd_snoc, Pd_snoc, b1, b2, h.pd]
def makeTo (evs : List Ev) : Nat → List Ev
  | 0 => []
  | k + 1 => match evs[k]? with
    | some e => if Er (makeTo evs k) e = 0 then makeTo evs k ++ [e] else makeTo evs k
    | none => makeTo evs k
theorem info_REv : (Tryd.prog.info? 65).map (fun i => (i.zero, i.size, i.bytes)) = some (some (.agg #[.int .i64 0, .bool false, .int .i64 0, .int .i64 0, .int .i64 0, .bool false, .int .i64 0]), 7, 56) := by kernel_rfl

set_option maxRecDepth 100000 in
set_option maxHeartbeats 3200000 in
theorem law_make (A : Option Addr) (n c : Nat) (evs : List Ev) (w : World) (hs : Sl w w.heap.size 7 A n (evs.flatMap Ev.cells)) (hn : evs.length = n) (hn' : n ≤ 60) :
    Calls Tryd.prog 9 #[.slice A n c] w fun e w' => ∃ (b : Nat) (s : HS) (took : List Ev) (v : Value), e = .returned (.tuple #[.pointer (some ⟨b, 0, none⟩), v]) ∧ MakeOk took s ∧ took.length ≤ n ∧ HAt w' b b s ∧ w'.ownsRow b 65 7 v took.length (took.flatMap Ev.cells) ∧ Below w.heap.size w w' := by
  obtain ⟨iE, hiE, zE, sE, bE⟩ := info_parts info_REv
  have HN := Lib.hid hn
  clear hn
  go_enter Tryd.func9, Tryd.ntmps9
  go_wp2_with fail
  refine (hist_new w).mono ?_
  rintro e w1 ⟨rfl, h1, hb1⟩
  obtain ⟨b, hb⟩ : ∃ b, w.heap.size = b := ⟨_, rfl⟩
  rw [hb] at h1 hb1 ⊢
  have hb1s : b ≤ w1.heap.size := by rw [← hb]; exact (hb ▸ hb1.size)
  have HB := Lib.hid hb
  rw [hb] at hs
  go_wp2_with fail
  go_loopw [5, 11] (fun tv i wr => ∃ (k : Nat) (s : HS) (took : List Ev), k ≤ n ∧ i = .int .i64 k ∧ MakeOk took s ∧ took.length ≤ k ∧ HAt wr b b s ∧ wr.ownsRow b 65 7 tv took.length (took.flatMap Ev.cells) ∧ Below b w wr ∧ b ≤ wr.heap.size) (fun _ i _ => n - (intOf i).toNat)
  case atStart => exact ⟨0, HS.new, [], by omega, rfl, make_new, by simp, h1, World.ownsRow_nil _ _ _ _, hb1, hb1s⟩
  case round =>
    obtain ⟨k, s, took, hk, rfl, hok, htl, hh, hown, hbr, hbs⟩ := hrel
    obtain ⟨At, ct, rfl, -, -, -⟩ := own_form hown
    by_cases hlt : k < n
    · obtain ⟨e, he⟩ : ∃ e, evs[k]? = some e := ⟨_, List.getElem?_eq_getElem (by rw [HN.out]; exact hlt)⟩
      have hs1 := hs.below hbr
      have hidx := hs1.idx (P := Tryd.prog) (c := c) Tryd.underlying22 evSz hlt
      obtain ⟨f0, f1, f2, f3, f4, f5, f6⟩ := ev_cells hs1 hlt he
      have hsz : s.evs.length ≤ 60 := by have := hok.len; omega
      clear he
      go_upto_region 6 with (fail)
      have hb3 : Below wr.heap.size wr (wr.alloc (.cells #[.int .i64 e.th, .bool e.ends, .int .i64 e.kind, .int .i64 e.key, .int .i64 e.code, .bool e.ok, .int .i64 e.val] 65)) := (Below.refl _ _).alloc (Nat.le_refl _) _
      have hx := Blk.new wr 65 #[.int .i64 e.th, .bool e.ends, .int .i64 e.kind, .int .i64 e.key, .int .i64 e.code, .bool e.ok, .int .i64 e.val]
      obtain ⟨X, hX⟩ : ∃ X, wr.heap.size = X := ⟨_, rfl⟩
      clear hidx f0 f1 f2 f3 f4 f5 f6
      generalize (wr.alloc (.cells #[.int .i64 e.th, .bool e.ends, .int .i64 e.kind, .int .i64 e.key, .int .i64 e.code, .bool e.ok, .int .i64 e.val] 65)) = w3 at *
      rw [hX] at hx
      have hown3 := own_step hown hb3
      have hsl3 := Sl.of_own hown3
      have hh3 := hh.step hb3
      have hc3 := hx.cells
      go_wp2_with fail
      refine (ref_error At took.length ct w3.heap.size e took w3 hsl3 (Nat.le_refl _) rfl (by omega)).mono ?_
      rintro e' w4 ⟨rfl, hb4⟩
      have hb34 := hb3.trans (hb4.mono hb3.size)
      have hx4 := hx.step hb4
      have hown4 := own_step hown hb34
      have hh4 := hh.step hb34
      have hb04 := hbr.trans (hb34.mono hbs)
      have hbs4 : b ≤ w4.heap.size := Nat.le_trans hbs hb34.size
      have hc4 := hx4.cells
      clear hc3 hsl3 hown3 hh3
      by_cases h0 : Er took e = 0
      · have hstep := make_step hok e h0
        have hst : s.step e = if e.ends then s.end_ e.th e.code e.ok e.val else s.begin_ e.th e.kind e.key := rfl
        have HSTEP := Lib.hid hstep
        rw [h0]
        have hoX : ∀ g, Value.ownBlock (.slice At took.length ct) = some g → g ≠ X := fun g hg e1 => by
          obtain ⟨-, cs1, hb1⟩ := own_at hown g hg
          have := hb1.lt
          omega
        have hown5 := hown4.alloc (.cells #[.int .i64 e.th, .bool e.ends, .int .i64 e.kind, .int .i64 e.key, .int .i64 e.code, .bool e.ok, .int .i64 e.val] 65)
        clear hstep h0
        go_wp2_with (at_builtin; refine wpList_append_lies _ rfl _ _ _ rfl b 65 iE _ 7 56 Tryd.underlying22 hiE zE sE bE rfl (by omega) (.slice At took.length ct) took.length (took.flatMap Ev.cells) rfl hown5 ⟨w4.heap.size, 0, none⟩ 1 1 e.cells rfl rfl (World.news_of_block (heap_alloc_new w4 _)) (Ev.cells_one _) (by omega) (by unfold maxLen; omega) (by omega) (by simp; omega) (w4.heap.size + 1) (by simp) ?_; intro g cap w9 hown9 hgrow hat hlt9; have hx9 := (hx4.alloc _).grown hgrow (fun e1 => hoX _ e1 rfl); have hc9 := hx9.cells)
        all_goals
          have kap : Kp b [65] w4 w9 := ((Kp.refl b [65] w4).alloc hbs4 _).own hown5 (Nat.le_refl _) (by simp; omega) (by decide) hgrow
          have hh9 := hh4.kp kap (by decide) (by decide) (by decide)
          have hbs9 : b ≤ w9.heap.size := Nat.le_trans hbs4 kap.size
          have hb09 := hb04.trans kap.below
          clear kap hgrow hat hown5 hx9 hc9 hoX hx4 hown4 hh4 hc4
        · have hen : e.ends = true := by first | assumption | (rename_i hx; simpa using hx)
          have hs9 : s.step e = s.end_ e.th e.code e.ok e.val := by rw [hst, hen]; rfl
          have HS9 := Lib.hid hs9
          clear hst hen hs9
          refine (hist_end b s b e.th e.code e.ok e.val w9 hh9 hbs9 (by omega)).mono ?_
          rintro e' w10 ⟨rfl, hh10, k10⟩
          have hown10 := own_kp hown9 k10 (by decide)
          have hl10 : (took ++ [e]).length = took.length + 1 := by simp
          have hf10 : (took ++ [e]).flatMap Ev.cells = took.flatMap Ev.cells ++ e.cells := by simp
          rw [← hl10, ← hf10] at hown10
          rw [← HS9.out] at hh10
          go_wp2_with fail
          exact ⟨⟨k + 1, s.step e, took ++ [e], by omega, by go_num, HSTEP.out, by omega, hh10, by simpa [hl10] using hown10, hb09.trans k10.below, Nat.le_trans hbs9 k10.size⟩, by simp [intOf]; omega⟩
        · have hen : e.ends = false := by first | assumption | (rename_i hx; simpa using hx)
          have hs9 : s.step e = s.begin_ e.th e.kind e.key := by rw [hst, hen]; rfl
          have HS9 := Lib.hid hs9
          clear hst hen hs9
          refine (hist_begin b s b e.th e.kind e.key w9 hh9 hbs9 (by omega)).mono ?_
          rintro e' w10 ⟨rfl, hh10, k10⟩
          have hown10 := own_kp hown9 k10 (by decide)
          have hl10 : (took ++ [e]).length = took.length + 1 := by simp
          have hf10 : (took ++ [e]).flatMap Ev.cells = took.flatMap Ev.cells ++ e.cells := by simp
          rw [← hl10, ← hf10] at hown10
          rw [← HS9.out] at hh10
          go_wp2_with fail
          exact ⟨⟨k + 1, s.step e, took ++ [e], by omega, by go_num, HSTEP.out, by omega, hh10, by simpa [hl10] using hown10, hb09.trans k10.below, Nat.le_trans hbs9 k10.size⟩, by simp [intOf]; omega⟩
      · have hb0 : (Er took e == 0) = false := beq_eq_false_iff_ne.2 h0
        generalize Er took e = er at *
        go_wp2_with fail
        go_roundw
        case rel => exact ⟨k + 1, s, took, by omega, by go_num, hok, by omega, hh4, hown4, hb04, hbs4⟩
        case measure => simp [intOf]; omega
    · obtain rfl : k = n := by omega
      go_wp2_with fail
      go_ret2
      exact ⟨b, s, took, _, rfl, hok, htl, hh, hown, by rw [HB.out]; exact hbr⟩
end Go.Proofs.YtboommppikfgnaaDoor
