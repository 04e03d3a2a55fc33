/- Contract of sched's Text.
   Conditions: the table of powers of ten lies as its initialiser lays it; at most 1000 picks. -/
import Derived.Test.YtiihhpmgfmiacaaDoorSchPS
import Derived.Lib.AppendIntMem
import Derived.Lib.ItoaLen
namespace Go.Proofs.YtiihhpmgfmiacaaDoor
open Go Go.RowKit

def Pk.fits (p : Pk) : Bool := (decide (0 ≤ p.th) && decide (p.th ≤ 99999)) && (decide (0 ≤ p.tm) && decide (p.tm ≤ 99999))
def Pk.text (p : Pk) : List UInt8 := if p.tm = 1 then Lib.itoa p.th else Lib.itoa p.th ++ 42 :: Lib.itoa p.tm
def textsL (ps : List Pk) : List (List UInt8) := (ps.filter Pk.fits).map Pk.text
def textL (ps : List Pk) : List UInt8 := Lib.join (textsL ps) [32]
theorem textsL_snoc (ps : List Pk) (k : Nat) (p : Pk) (h : ps[k]? = some p) : textsL (ps.take (k + 1)) = textsL (ps.take k) ++ if p.fits then [p.text] else [] := by
  rw [take_snoc ps k p h]
  simp only [textsL, List.filter_append, List.map_append, List.filter_cons, List.filter_nil]
  congr 1
  split <;> rfl
theorem textsL_le (ps : List Pk) : (textsL ps).length ≤ ps.length := by
  unfold textsL; rw [List.length_map]; exact List.length_filter_le _ _

def strV (x : List UInt8) : Value := .string ⟨x.toArray⟩
theorem info_str : (Tryd.prog.info? 9).map (fun i => (i.zero, i.size, i.bytes)) = some (some (.string ⟨#[]⟩), 1, 16) := by kernel_rfl

theorem sch_fits (n : Int) (ok : Bool) (h : (decide (0 ≤ n) && decide (n ≤ 99999)) = ok) (w : World) : Calls Tryd.prog 26 #[.int .i64 n] w fun e w' => e = .returned (.bool ok) ∧ w = w' := by
  by_cases h0 : 0 ≤ n
  · have d0 : decide (0 ≤ n) = true := by simpa using h0
    rw [d0] at h
    have H := Lib.hid h
    clear h
    go_enter Tryd.func26, Tryd.ntmps26
    go_wp2
    go_ret
    exact ⟨ret_b H.out, rfl⟩
  · have d0 : decide (0 ≤ n) = false := by simpa using h0
    rw [d0] at h
    have H := Lib.hid h
    clear h
    go_enter Tryd.func26, Tryd.ntmps26
    go_wp2
    go_ret
    exact ⟨ret_b H.out, rfl⟩
theorem sch_itoa (n : Int) (h0 : 0 ≤ n) (h1 : n ≤ 99999) (w : World) (htab : Lib.TabIs Tryd.prog w "internal/strconv.uint64pow10" .u64 Lib.pow10Tab) :
    Calls Tryd.prog 27 #[.int .i64 n] w fun e w' => e = .returned (.string ⟨(Lib.itoa n).toArray⟩) ∧ Below w.heap.size w w' := by
  refine (Tryd.strconv_Itoa n (by omega) (by omega) w htab).mono ?_
  rintro e w' ⟨he, k, os, rfl⟩
  exact ⟨he, Go.Lib.below_grow _ w (Nat.le_refl _) k os⟩

theorem joinTail_len (m : Nat) : ∀ (r : List (List UInt8)), (∀ x ∈ r, x.length ≤ m) → (Lib.joinTail [32] r).length ≤ r.length * (m + 1)
  | [], _ => by simp [Lib.joinTail]
  | x :: r, h => by
    have ih := joinTail_len m r (fun y hy => h y (List.mem_cons_of_mem _ hy))
    have hx := h x (List.mem_cons_self ..)
    simp only [Lib.joinTail, List.map_cons, List.flatten_cons, List.length_append, List.length_cons, List.length_nil] at ih ⊢
    rw [Nat.add_mul]; omega
theorem join_len (m : Nat) (xs : List (List UInt8)) (h : ∀ x ∈ xs, x.length ≤ m) : (Lib.join xs [32]).length ≤ xs.length * (m + 1) := by
  cases xs with
  | nil => simp [Lib.join]
  | cons x r =>
    rw [Lib.join_cons]
    have := joinTail_len m r (fun y hy => h y (List.mem_cons_of_mem _ hy))
    have hx := h x (List.mem_cons_self ..)
    rw [List.length_append, List.length_cons, Nat.add_mul]; omega
theorem textsL_len (ps : List Pk) : ∀ x ∈ textsL ps, x.length ≤ 43 := by
  intro x hx
  obtain ⟨p, hp, rfl⟩ := List.mem_map.1 hx
  have hf : p.fits = true := (List.mem_filter.1 hp).2
  have h : (0 ≤ p.th ∧ p.th ≤ 99999) ∧ (0 ≤ p.tm ∧ p.tm ≤ 99999) := by simpa [Pk.fits] using hf
  have l1 := Lib.itoa_length_le p.th (by omega) (by omega)
  have l2 := Lib.itoa_length_le p.tm (by omega) (by omega)
  unfold Pk.text
  split
  · omega
  · simp; omega
theorem sch_join (v : Value) (xs : List (List UInt8)) (base : Nat) (w : World) (hown : w.ownsRow base 9 1 v xs.length (xs.map strV)) (hx : ∀ x ∈ xs, x.length ≤ 43) (hn : xs.length ≤ 1000) :
    Calls Tryd.prog 28 #[v, .string ⟨#[32]⟩] w fun e w' => e = .returned (.string ⟨(Lib.join xs [32]).toArray⟩) ∧ Below w.heap.size w w' := by
  obtain ⟨A, c, rfl, hc, hnil, hz⟩ := own_form hown
  have hs := Sl.of_own hown
  cases xs with
  | nil =>
    refine (Tryd.strings_Join_none A c ⟨#[32]⟩ w).mono ?_
    rintro e w' ⟨he, rfl⟩
    exact ⟨he, Below.refl _ _⟩
  | cons x r =>
    have hA := hs.adr (by simp)
    have hblt := hs.blt (by simp)
    have hm : ((x :: r).map fun x => (⟨x.toArray⟩ : ByteArray)).map (·.data.toList) = x :: r := by rw [List.map_map]; exact List.map_id _
    have key := Tryd.strings_Join (ablk A) (aoff A) c ((x :: r).map fun x => ⟨x.toArray⟩) ⟨#[32]⟩ w (fun j y hy => by
      have hj : j < (x :: r).length := by have := (List.getElem?_eq_some_iff.1 hy).1; simpa using this
      have := hs.cell j (by omega)
      rw [this]
      rw [List.getElem?_map] at hy ⊢
      obtain ⟨z, hz1, hz2⟩ := Option.map_eq_some_iff.1 hy
      rw [hz1]
      subst hz2
      rfl) hblt (by simp at hn ⊢; omega) (by simpa using hc) (by
        rw [hm]
        have := join_len 43 (x :: r) hx
        have h2 : (⟨#[32]⟩ : ByteArray).data.toList = [32] := rfl
        rw [h2]; simp at hn this ⊢; omega)
    rw [hm, List.length_map, ← hA] at key
    exact key

set_option maxRecDepth 100000 in
set_option maxHeartbeats 1600000 in
theorem sch_text (A : Option Addr) (n c B : Nat) (ps : List Pk) (w : World) (hs : Sl w B 2 A n (ps.flatMap Pk.cells)) (hB : B ≤ w.heap.size) (hn : ps.length = n) (hn' : n ≤ 1000)
    (htab : ∀ w', Below w.heap.size w w' → Lib.TabIs Tryd.prog w' "internal/strconv.uint64pow10" .u64 Lib.pow10Tab) :
    Calls Tryd.prog 15 #[.slice A n c] w fun e w' => e = .returned (.string ⟨(textL ps).toArray⟩) ∧ Below w.heap.size w w' := by
  obtain ⟨iP, hiP, zP, sP, bP⟩ := info_parts info_str
  have HN := Lib.hid hn
  have HT := Lib.hid htab
  clear hn htab
  go_enter Tryd.func15, Tryd.ntmps15
  go_wp2_with fail
  go_loopw [3, 9] (fun out i wr => ∃ (k : Nat) (xs : List (List UInt8)), k ≤ n ∧ i = .int .i64 k ∧ xs = textsL (ps.take k) ∧ wr.ownsRow w.heap.size 9 1 out xs.length (xs.map strV) ∧ Below w.heap.size w wr) (fun _ i _ => n - (intOf i).toNat)
  case atStart => exact ⟨0, [], by omega, rfl, rfl, World.ownsRow_nil _ _ _ _, Below.refl _ _⟩
  case round =>
    obtain ⟨k, xs, hk, rfl, hxs, hown, hbr⟩ := hrel
    have hxl : xs.length ≤ k := by
      have := textsL_le (ps.take k)
      rw [← hxs, List.length_take] at this; omega
    by_cases hlt : k < n
    · obtain ⟨p, hp⟩ : ∃ p, ps[k]? = some p := ⟨_, List.getElem?_eq_getElem (by rw [HN.out]; exact hlt)⟩
      have hs1 := hs.step hB hbr
      have hidx := hs1.idx (P := Tryd.prog) (c := c) Tryd.underlying23 pkSz hlt
      obtain ⟨f0, f1⟩ := pk_cells hs1 hlt hp
      have hst := textsL_snoc ps k p hp
      rw [← hxs] at hst
      have hbs := hbr.size
      obtain ⟨o1, ho1⟩ : ∃ o, (decide (0 ≤ p.th) && decide (p.th ≤ 99999)) = o := ⟨_, rfl⟩
      obtain ⟨o2, ho2⟩ : ∃ o, (decide (0 ≤ p.tm) && decide (p.tm ≤ 99999)) = o := ⟨_, rfl⟩
      have hf : p.fits = (o1 && o2) := by unfold Pk.fits; rw [ho1, ho2]
      rw [hf] at hst
      have HST := Lib.hid hst
      have HO1 := Lib.hid ho1
      have HO2 := Lib.hid ho2
      clear hp hxs hst ho1 ho2 hf
      go_upto_region 5 with (fail)
      have hb3 : Below w.heap.size w (wr.alloc (.cells #[.int .i64 p.th, .int .i64 p.tm] 33)) := hbr.alloc (by omega) _
      have hpb := Blk.new wr 33 #[.int .i64 p.th, .int .i64 p.tm]
      have hown3 := hown.alloc (.cells #[.int .i64 p.th, .int .i64 p.tm] 33)
      have hsz := hb3.size
      clear hs1 hidx f0 f1 hown hbr
      generalize (wr.alloc (.cells #[.int .i64 p.th, .int .i64 p.tm] 33)) = w3 at *
      have hc3 := hpb.cells
      go_wp2_with fail
      refine (sch_fits p.th o1 HO1.out w3).mono ?_
      rintro e w4 ⟨rfl, rfl⟩
      cases o1
      · have HST' : Hid (textsL (ps.take (k + 1)) = xs) := by have := HST.out; simp at this; exact this
        clear HST
        go_wp2_with fail
        go_roundw
        case rel => exact ⟨k + 1, xs, by omega, by go_num, HST'.out.symm, hown3, hb3⟩
        case measure => simp [intOf]; omega
      · go_wp2_with fail
        refine (sch_fits p.tm o2 HO2.out w3).mono ?_
        rintro e w4 ⟨rfl, rfl⟩
        cases o2
        · have HST' : Hid (textsL (ps.take (k + 1)) = xs) := by have := HST.out; simp at this; exact this
          clear HST
          go_wp2_with fail
          go_roundw
          case rel => exact ⟨k + 1, xs, by omega, by go_num, HST'.out.symm, hown3, hb3⟩
          case measure => simp [intOf]; omega
        · have h1 : 0 ≤ p.th ∧ p.th ≤ 99999 := by simpa using HO1.out
          have h2 : 0 ≤ p.tm ∧ p.tm ≤ 99999 := by simpa using HO2.out
          have HST' : Hid (textsL (ps.take (k + 1)) = xs ++ [p.text]) := HST.out
          go_wp2_with fail
          refine (sch_itoa p.th h1.1 h1.2 _ (HT.out _ hb3)).mono ?_
          rintro e w4 ⟨rfl, hb4⟩
          have hpb4 := hpb.step hb4
          have hc4 := hpb4.cells
          have hown4 := own_step hown3 hb4
          have hb04 := hb3.trans (hb4.mono hsz)
          have hs04 := hb04.size
          clear hc3 hpb hown3 hb3 hsz
          by_cases h1m : p.tm = 1
          · have ht : p.text = Lib.itoa p.th := by unfold Pk.text; rw [if_pos h1m]
            rw [ht] at HST'
            have e1 : (p.tm == 1) = true := by simpa using h1m
            clear ht
            obtain ⟨S, hS⟩ : ∃ S, Lib.itoa p.th = S := ⟨_, rfl⟩
            rw [hS] at HST' ⊢
            go_upto_region 9 with (fail)
            have hown5 := hown4.alloc (.cells #[.string ⟨(S).toArray⟩] 9)
            go_wp2_with (at_builtin; refine wpList_append_lies _ rfl _ _ _ rfl w.heap.size 9 iP _ 1 16 Tryd.underlying53 hiP zP sP bP rfl (by omega) _ xs.length (xs.map strV) rfl hown5 ⟨w4.heap.size, 0, none⟩ 1 1 [.string ⟨(S).toArray⟩] rfl rfl (World.news_of_block (heap_alloc_new w4 _)) (by simp [Value.oneCell']) (by omega) (by unfold maxLen; omega) (by omega) (by simp; omega) (w4.heap.size + 1) (by simp) ?_; intro g cap w9 hown9 hgrow hat hlt9)
            have hgrow' : (w4.alloc (.cells #[.string ⟨(S).toArray⟩] 9)).grownBy w9 (Value.ownBlock u3) := hgrow
            clear hgrow hat
            go_roundw
            case rel =>
              refine ⟨k + 1, xs ++ [S], by omega, by go_num, HST'.out.symm, ?_, ?_⟩
              · simpa [strV] using hown9
              · exact (hb04.alloc (by omega) _).grown hgrow' (by simp; omega) (fun g0 h0 => (own_at hown4 g0 h0).1)
            case measure => simp [intOf]; omega
          · have ht : p.text = Lib.itoa p.th ++ 42 :: Lib.itoa p.tm := by unfold Pk.text; rw [if_neg h1m]
            have hne : (p.tm == 1) = false := by simpa using h1m
            rw [ht] at HST'
            clear ht
            have l1 := Lib.itoa_length_le p.th (by omega) (by omega)
            have l2 := Lib.itoa_length_le p.tm (by omega) (by omega)
            go_wp2_with fail
            refine (sch_itoa p.tm h2.1 h2.2 _ (HT.out _ hb04)).mono ?_
            rintro e w5 ⟨rfl, hb5⟩
            have hown5' := own_step hown4 hb5
            have hb05 := hb04.trans (hb5.mono hs04)
            have hs05 := hb05.size
            clear hown4 hb04 hpb4 hc4
            have n1 : ¬ 9223372036854775807 < 1 + (Lib.itoa p.tm).length := by omega
            have n2 : ¬ 9223372036854775807 < (Lib.itoa p.th).length + (1 + (Lib.itoa p.tm).length) := by omega
            have hcat : (⟨(Lib.itoa p.th).toArray⟩ : ByteArray) ++ ((⟨#[42]⟩ : ByteArray) ++ ⟨(Lib.itoa p.tm).toArray⟩) = ⟨(Lib.itoa p.th ++ 42 :: Lib.itoa p.tm).toArray⟩ := by
              rw [ByteArray.mk_append_mk, ByteArray.mk_append_mk]; simp
            clear h1 h2
            go_upto_region 9 with (fail)
            clear hcat n1 n2 l1 l2
            generalize (Lib.itoa p.th ++ 42 :: Lib.itoa p.tm) = S at *
            have hown5 := hown5'.alloc (.cells #[.string ⟨(S).toArray⟩] 9)
            go_wp2_with (at_builtin; refine wpList_append_lies _ rfl _ _ _ rfl w.heap.size 9 iP _ 1 16 Tryd.underlying53 hiP zP sP bP rfl (by omega) _ xs.length (xs.map strV) rfl hown5 ⟨w5.heap.size, 0, none⟩ 1 1 [.string ⟨(S).toArray⟩] rfl rfl (World.news_of_block (heap_alloc_new w5 _)) (by simp [Value.oneCell']) (by omega) (by unfold maxLen; omega) (by omega) (by simp; omega) (w5.heap.size + 1) (by simp) ?_; intro g cap w9 hown9 hgrow hat hlt9)
            have hgrow' : (w5.alloc (.cells #[.string ⟨(S).toArray⟩] 9)).grownBy w9 (Value.ownBlock u3) := hgrow
            clear hgrow hat
            go_roundw
            case rel =>
              refine ⟨k + 1, xs ++ [S], by omega, by go_num, HST'.out.symm, ?_, ?_⟩
              · simpa [strV] using hown9
              · exact (hb05.alloc (by omega) _).grown hgrow' (by simp; omega) (fun g0 h0 => (own_at hown5' g0 h0).1)
            case measure => simp [intOf]; omega
    · obtain rfl : k = n := by omega
      have ht : ps.take k = ps := List.take_of_length_le (by rw [HN.out]; omega)
      rw [ht] at hxs
      have hj := sch_join u3 xs w.heap.size wr hown (by rw [hxs]; exact textsL_len ps) (by omega)
      have HX := Lib.hid hxs
      clear hxs ht
      go_wp2_with fail
      refine hj.mono ?_
      rintro e w4 ⟨rfl, hb4⟩
      go_wp2_with fail
      go_ret
      exact ⟨by rw [HX.out]; rfl, hbr.trans (hb4.mono hbr.size)⟩
end Go.Proofs.YtiihhpmgfmiacaaDoor
