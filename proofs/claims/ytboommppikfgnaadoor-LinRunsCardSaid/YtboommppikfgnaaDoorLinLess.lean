/- Contract of the document's Least (layer 9): it tells the least order.
   Conditions: the numbers are those of calls; what is placed is marked. -/
import Derived.Test.YtboommppikfgnaaDoorLinLeast
namespace Go.Proofs.YtboommppikfgnaaDoor
open Go Go.RowKit

theorem ints_same {B : Nat} {w : World} (r : Bool) (l m : List Int) (hr : (l == m) = r) (A1 A2 : Option Addr) (n1 n2 c1 c2 : Nat) (h1 : Sl w B 1 A1 n1 (ints l)) (h2 : Sl w B 1 A2 n2 (ints m)) (hB : B ≤ w.heap.size) (hn1 : n1 ≤ 100000) (hn2 : n2 ≤ 100000) :
    Calls Tryd.prog 14 #[.slice A1 n1 c1, .slice A2 n2 c2] w fun e w' => e = .returned (.bool r) ∧ Below w.heap.size w w' := by
  subst hr; exact ref_Ints l m A1 A2 n1 n2 c1 c2 h1 h2 hB hn1 hn2
theorem findN_len (sh : Int) (cs : List HC) : ∀ (f P : Nat) (items r : List Int), findN sh cs f P items = some r → r.length ≤ f
  | 0, P, items, r, h => by
    simp only [findN] at h
    split at h
    · injection h with h; subst h; exact Nat.le_refl _
    · cases h
  | f + 1, P, items, r, h => by
    simp only [findN] at h
    split at h
    · injection h with h; subst h; exact Nat.zero_le _
    · obtain ⟨c, -, hc⟩ := firstOf_some h
      split at hc
      · cases hg : findN sh cs f (place P c) (spDo sh items c.op) with
        | none => rw [hg] at hc; cases hc
        | some r' =>
          rw [hg] at hc
          injection hc with hc
          subst hc
          have := findN_len sh cs f _ _ _ hg
          simp only [List.length_cons]; omega
      · cases hc
theorem findL_len {sh : Int} {cs : List HC} {P : Nat} {items r : List Int} (h : findL sh cs P items = some r) : r.length ≤ cs.length := by
  have h1 := findN_len sh cs _ P items r h
  have h2 : left cs.length P ≤ cs.length := by
    unfold left
    have := List.length_filter_le (fun i => !P.testBit i) (List.range cs.length)
    rwa [List.length_range] at this
  omega

theorem sees_self (e : Ev) (i : Nat) (evs : List Ev) : ∀ m, ((RC.start e i).sees evs (i + 1) m).began = i ∧ (((RC.start e i).sees evs (i + 1) m).ended < 0 ∨ (i : Int) < ((RC.start e i).sees evs (i + 1) m).ended)
  | 0 => ⟨rfl, .inl (by show (-1 : Int) < 0; decide)⟩
  | m + 1 => by
    obtain ⟨h1, h2⟩ := sees_self e i evs m
    simp only [RC.sees]
    unfold RC.see
    split
    · split
      · split
        · exact ⟨h1, .inr (by simp only; omega)⟩
        · exact ⟨h1, h2⟩
      · exact ⟨h1, h2⟩
    · exact ⟨h1, h2⟩
theorem rcallsTo_self (evs : List Ev) : ∀ k, ∀ c ∈ rcallsTo evs k, c.ended < 0 ∨ c.began < c.ended
  | 0, _, h => by cases h
  | k + 1, c, h => by
    simp only [rcallsTo] at h
    rcases List.mem_append.1 h with h | h
    · exact rcallsTo_self evs k c h
    · split at h
      · rename_i e he
        split at h
        · cases h
        · obtain rfl : c = rcall evs e k := by simpa using h
          obtain ⟨h1, h2⟩ := sees_self e k evs (evs.length - (k + 1))
          unfold rcall
          rw [h1]; exact h2
      · cases h
theorem ref_self {s : HS} (r : s.Ref) : ∀ c ∈ s.calls, c.bef c = false := by
  intro c hc
  have h1 : c.rc ∈ rcalls s.evs := by rw [← r.rc]; exact List.mem_map_of_mem hc
  have h2 := rcallsTo_self s.evs _ c.rc h1
  have e1 : c.rc.ended = c.ended := rfl
  have e2 : c.rc.began = c.began := rfl
  rw [e1, e2] at h2
  unfold HC.bef
  rcases h2 with h | h
  · simp [h]
  · have : ¬ c.ended < c.began := by omega
    simp [this]

/-- what Least tells -/
def LTold (w' : World) (e : Ending) : Option (List Int) → Prop
  | some r => ∃ A c, e = .returned (.tuple #[.slice A r.length c, .bool true]) ∧ Sl w' w'.heap.size 1 A r.length (ints r)
  | none => e = .returned (.tuple #[.slice none 0 0, .bool false])
/-- what has been gone through of the calls -/
def leastTo (sh : Int) (cs : List RC) (u : Nat) (ord : List Int) (k : Nat) : Option (List Int) := (List.range k).findSome? fun (i : Nat) => if fitsR sh cs ord (i : Int) then leastN sh cs u (ord ++ [(i : Int)]) else none
theorem leastTo_succ (sh : Int) (cs : List RC) (u : Nat) (ord : List Int) (k : Nat) (h : leastTo sh cs u ord k = none) : leastTo sh cs u ord (k + 1) = if fitsR sh cs ord (k : Int) then leastN sh cs u (ord ++ [(k : Int)]) else none := by
  unfold leastTo at h ⊢
  rw [List.range_succ, List.findSome?_append, h]
  simp only [List.findSome?_cons, List.findSome?_nil, Option.none_or]
  split <;> simp_all
theorem leastTo_some (sh : Int) (cs : List RC) (u : Nat) (ord : List Int) (k : Nat) (r : List Int) (h : leastTo sh cs u ord k = some r) : ∀ m, leastTo sh cs u ord (k + m) = some r
  | 0 => h
  | m + 1 => by
    have ih := leastTo_some sh cs u ord k r h m
    unfold leastTo at ih ⊢
    rw [← Nat.add_assoc, List.range_succ, List.findSome?_append, ih]; rfl
/-- what is placed is marked -/
def Marks (n P : Nat) (ord : List Int) : Prop := ∀ (i : Nat), i < n → P.testBit i = ord.contains (i : Int)
def mark (P i : Nat) : Nat := place P ⟨0, 0, i, 0, 0, 0, 0, false, 0⟩
theorem marks_put {n P : Nat} {ord : List Int} (h : Marks n P ord) {i : Nat} : Marks n (mark P i) (ord ++ [(i : Int)]) := by
  intro j hj
  unfold mark
  rw [testBit_place, h j hj, List.contains_append]
  congr 1
  by_cases e : i = j
  · subst e; simp
  · have : ¬ (j : Int) = i := by omega
    simp [e, this]
theorem fits_marks {sh : Int} {cs : List RC} {ord : List Int} {i : Nat} (h : fitsR sh cs ord (i : Int) = true) : ord.contains (i : Int) = false := by
  unfold fitsR at h
  split at h
  · cases h
  · simp only [Bool.and_eq_true, Bool.not_eq_true'] at h
    exact h.1
theorem left_mark {n P i : Nat} (hi : i < n) (hp : P.testBit i = false) : left n (mark P i) + 1 = left n P := left_place (c := ⟨0, 0, i, 0, 0, 0, 0, false, 0⟩) (by simpa using hi) (by unfold isIn; simpa using hp)

theorem info_Int : (Tryd.prog.info? 3).map (fun i => (i.zero, i.size, i.bytes)) = some (some (.int .i64 0), 1, 8) := by kernel_rfl
theorem sl_news {w : World} {B g n : Nat} {xs : List Value} (h : Sl w B 1 (some ⟨g, 0, none⟩) n xs) : ∀ j u, xs[j]? = some u → w.cell? ((⟨g, 0, none⟩ : Addr).add j) = some u := by
  intro j u hj
  have hl := (List.getElem?_eq_some_iff.1 hj).1
  have h1 := h.cell j (by have := h.len; omega)
  rw [hj] at h1
  by_cases h0 : j = 0
  · subst h0
    simpa [ablk, aoff, Addr.add] using h1
  · simpa [ablk, aoff, Addr.add, h0] using h1
theorem least_eq {sh : Int} {cs : List RC} {n P u : Nat} {ord : List Int} (hn : cs.length = n) (hm : Marks n P ord) (hl : left n P = u) : leastN sh cs u ord = if wholeTo cs ord n then some ord else leastTo sh cs (u - 1) ord n := by
  cases u with
  | zero =>
    simp only [leastN, hn]
    have : leastTo sh cs (0 - 1) ord n = none := by
      unfold leastTo
      refine findSome_none fun i hi => ?_
      have hi' := List.mem_range.1 hi
      have hb := left_zero hl hi'
      rw [hm i hi'] at hb
      rw [if_neg]
      intro hf
      rw [fits_marks hf] at hb; cases hb
    rw [this]
  | succ u =>
    simp only [leastN, hn, Nat.add_sub_cancel]
    rfl

set_option maxRecDepth 100000 in
set_option maxHeartbeats 6400000 in
theorem ref_least (sh : Int) (cs : List RC) (A : Option Addr) (n cc : Nat) (hn : cs.length = n) (hn' : n ≤ 1000) : ∀ (u no co P B : Nat) (ord : List Int) (Ao : Option Addr) (w : World), Sl w B 8 A n (cs.flatMap RC.cells) → Sl w B 1 Ao no (ints ord) → B ≤ w.heap.size →
    ord.length = no → ValidR cs ord → no + u ≤ 800 → ((Ao = none ∧ no = 0 ∧ co = 0) ∨ ∃ g, Ao = some ⟨g, 0, none⟩ ∧ 0 < no) → Marks n P ord → left n P = u →
    Calls Tryd.prog 13 #[.int .i64 sh, .slice A n cc, .slice Ao no co] w fun e w' => LTold w' e (leastN sh cs u ord) ∧ Below w.heap.size w w' := by
  obtain ⟨iI, hiI, zI, sI, bI⟩ := info_parts info_Int
  have HN := Lib.hid hn
  clear hn
  intro u
  induction u using Nat.strongRecOn with
  | _ u ih =>
  intro no co P B ord Ao w hs ho hB hl hv hno hform hm hlf
  obtain ⟨b0, hb0⟩ : ∃ b0, w.heap.size = b0 := ⟨_, rfl⟩
  have HB0 := Lib.hid hb0
  rw [hb0] at hB
  have hwh := ref_whole (cc := cc) (co := co) hs ho (by omega) HN.out hn' hl (by omega)
  obtain ⟨wh, hwh2⟩ : ∃ wh, wholeTo cs ord n = wh := ⟨_, rfl⟩
  have hle := least_eq (sh := sh) HN.out hm hlf
  rw [hwh2] at hwh hle
  have HWH := Lib.hid hwh
  have HLE := Lib.hid hle
  have HL := Lib.hid hl
  have HV := Lib.hid hv
  have HM := Lib.hid hm
  have HLF := Lib.hid hlf
  have IH := Lib.hid ih
  rw [hb0]
  clear hwh hle hl hv hm hlf hwh2 ih hb0
  go_enter Tryd.func13, Tryd.ntmps13
  go_wp2_with fail
  refine HWH.out.mono ?_
  rintro e w1 ⟨rfl, rfl⟩
  cases wh with
  | true =>
    go_wp2_with fail
    refine bodyPost_ret (v := .tuple #[.slice Ao no co, .bool true]) (by simp [results, Tryd.results13, go_sem]) rfl ⟨?_, Below.refl _ _⟩
    rw [HLE.out]
    show LTold w _ (some ord)
    exact ⟨Ao, co, by rw [HL.out], by rw [HL.out]; exact ho.more (by rw [HB0.out]; exact hB)⟩
  | false =>
    go_wp2_with fail
    go_loopw [8, 9, 10, 11] (fun i t9 t10 t11 wr => ∃ k : Nat, k ≤ n ∧ i = .int .i64 k ∧ leastTo sh cs (u - 1) ord k = none ∧ Below b0 w wr ∧ b0 ≤ wr.heap.size) (fun i _ _ _ _ => n - (intOf i).toNat)
    case atStart => exact ⟨0, by omega, rfl, rfl, Below.refl _ _, by rw [HB0.out]; exact Nat.le_refl _⟩
    case round =>
      obtain ⟨k, hk, rfl, hnone, hbr, hbs⟩ := hrel
      by_cases hlt : k < n
      · have hsr := hs.below (hbr.mono hB)
        have hor := ho.below (hbr.mono hB)
        have hon : wr.ownsRow b0 3 1 (.slice none 0 0) 0 [] := World.ownsRow_nil _ _ _ _
        have HNONE := Lib.hid hnone
        clear hnone
        rcases hform with ⟨rfl, rfl, rfl⟩ | ⟨go, rfl, hno0⟩
        case inl =>
          go_upto_region 8 with (fail)
          obtain rfl : ord = [] := List.eq_nil_of_length_eq_zero HL.out
          have hown7 : wr.ownsRow b0 3 1 (.slice none 0 0) 0 (ints []) := hon
          have hb07 := hbr
          have hbs7 := hbs
          clear hsr hor hon hbr
          have hown8 := hown7.alloc (.cells #[.int .i64 (k : Int)] 3)
          have hb08 := hb07.alloc hbs7 (.cells #[.int .i64 (k : Int)] 3)
          go_upto_region 9 with (at_builtin; refine wpList_append_lies _ rfl _ _ _ rfl b0 3 iI _ 1 8 Tryd.underlying29 hiI zI sI bI rfl (by omega) (.slice none 0 0) 0 (ints []) rfl hown8 ⟨wr.heap.size, 0, none⟩ 1 1 (ints [(k : Int)]) rfl rfl (World.news_of_block (heap_alloc_new wr _)) (ints_one _) (by omega) (by unfold maxLen; omega) (by omega) (by simp; omega) (wr.heap.size + 1) (by simp) ?_; intro g9 cap9 w9 hown9 hgrow9 hat9 hlt9)
          have hb09 : Below b0 w w9 := hb08.grown hgrow9 (by simp; omega) (fun g0 h0 => (own_at hown8 g0 h0).1)
          have hbs9 : b0 ≤ w9.heap.size := by have := hgrow9.size; simp at this; omega
          rw [← ints_app] at hown9
          clear hgrow9 hat9 hown8 hb08 hown7 hb07
          have hs9 := (hs.below (hb09.mono hB)).more (Nat.le_trans hB hbs9)
          have ho9 := Sl.of_own hown9
          obtain ⟨_, _, hcap, hcl, -, -⟩ := own_form hown9
          injection hcap with hcapA hcapN hcapC
          rw [← hcapC] at hcl
          have hfit := ref_fits (cc := cc) (co := cap9) sh [] (k : Int) hs9 ho9 (Nat.le_refl _) HN.out hn' HL.out (by omega) hcl HV.out
          have hsucc := leastTo_succ sh cs (u - 1) [] k HNONE.out
          obtain ⟨ft, hft⟩ : ∃ ft, fitsR sh cs [] (k : Int) = ft := ⟨_, rfl⟩
          have HFT := Lib.hid hft
          rw [hft] at hfit hsucc
          have HFIT := Lib.hid hfit
          have HSUCC := Lib.hid hsucc
          have HOWN9 := Lib.hid hown9
          clear hft hfit hsucc hcapA hcapN hcapC hcl hown9
          go_wp2_with fail
          refine HFIT.out.mono ?_
          rintro e w10 ⟨rfl, hb10⟩
          have hb010 := hb09.trans (hb10.mono hbs9)
          have hbs10 : b0 ≤ w10.heap.size := Nat.le_trans hbs9 hb10.size
          cases ft with
          | false =>
            have HN2 : Hid (leastTo sh cs (u - 1) [] (k + 1) = none) := Lib.hid (by rw [HSUCC.out]; rfl)
            go_wp2_with fail
            go_roundw
            case rel => exact ⟨k + 1, by omega, by go_num, HN2.out, hb010, hbs10⟩
            case measure => simp [intOf]; omega
          | true =>
            have hbit : P.testBit k = false := by rw [HM.out k hlt]; exact fits_marks HFT.out
            have hlm := left_mark hlt hbit
            rw [HLF.out] at hlm
            have hv2 : ValidR cs ([] ++ [(k : Int)]) := by
              intro x hx
              rcases List.mem_append.1 hx with h | h
              · exact HV.out x h
              · obtain rfl : x = (k : Int) := by simpa using h
                have := HN.out
                omega
            have hrec := IH.out (u - 1) (by omega) (0 + 1) cap9 (mark P k) w9.heap.size ([] ++ [(k : Int)]) (some ⟨g9, 0, none⟩) w10 (hs9.step (Nat.le_refl _) hb10) (ho9.step (Nat.le_refl _) hb10) hb10.size (by rw [List.length_append, HL.out]; rfl) hv2 (by omega) (.inr ⟨g9, rfl, by omega⟩) (marks_put HM.out) (by omega)
            obtain ⟨res, hres⟩ : ∃ res, leastN sh cs (u - 1) ([] ++ [(k : Int)]) = res := ⟨_, rfl⟩
            have hsu : leastTo sh cs (u - 1) [] (k + 1) = res := by rw [HSUCC.out, if_pos rfl]; exact hres
            rw [hres] at hrec
            have HREC := Lib.hid hrec
            have HSU := Lib.hid hsu
            clear hrec hsu hres hv2 hlm hbit
            go_wp2_with fail
            refine HREC.out.mono ?_
            rintro e w11 ⟨htold, hb11⟩
            have hb011 := hb010.trans (hb11.mono hbs10)
            have hbs11 : b0 ≤ w11.heap.size := Nat.le_trans hbs10 hb11.size
            cases res with
            | none =>
              obtain rfl := htold
              go_wp2_with fail
              go_roundw
              case rel => exact ⟨k + 1, by omega, by go_num, HSU.out, hb011, hbs11⟩
              case measure => simp [intOf]; omega
            | some r =>
              obtain ⟨Ar, cr, rfl, hsr2⟩ := htold
              have hall := leastTo_some sh cs (u - 1) [] (k + 1) r HSU.out (n - (k + 1))
              rw [show k + 1 + (n - (k + 1)) = n by omega] at hall
              have HALL := Lib.hid hall
              clear hall
              go_wp2_with fail
              refine bodyPost_ret (v := .tuple #[.slice Ar r.length cr, .bool true]) (by simp [results, Tryd.results13, go_sem]) rfl ⟨?_, hb011⟩
              rw [HLE.out]
              show LTold w11 _ (leastTo sh cs (u - 1) [] n)
              rw [HALL.out]
              exact ⟨Ar, cr, rfl, hsr2⟩
        case inr =>
          go_upto_region 8 with (at_builtin; refine wpList_append_lies _ rfl _ _ _ rfl b0 3 iI _ 1 8 Tryd.underlying29 hiI zI sI bI rfl (by omega) _ 0 [] rfl hon ⟨go, 0, none⟩ no co (ints ord) rfl (by rw [ints_len, HL.out]; omega) (sl_news hor) (ints_one _) (by omega) (by unfold maxLen; omega) (by omega) (by omega) wr.heap.size rfl ?_; intro g cap w7 hown7 hgrow7 hat7 hlt7)
          have hb07 : Below b0 w w7 := hbr.grown hgrow7 hbs (fun g0 h0 => (own_at hon g0 h0).1)
          have hbs7 : b0 ≤ w7.heap.size := Nat.le_trans hbs hgrow7.size
          rw [Nat.zero_add, List.nil_append] at hown7
          clear hsr hor hon hbr hgrow7 hat7 hlt7
          have hown8 := hown7.alloc (.cells #[.int .i64 (k : Int)] 3)
          have hb08 := hb07.alloc hbs7 (.cells #[.int .i64 (k : Int)] 3)
          go_upto_region 9 with (at_builtin; refine wpList_append_lies _ rfl _ _ _ rfl b0 3 iI _ 1 8 Tryd.underlying29 hiI zI sI bI rfl (by omega) (.slice (some ⟨g, 0, none⟩) no cap) no (ints ord) rfl hown8 ⟨w7.heap.size, 0, none⟩ 1 1 (ints [(k : Int)]) rfl rfl (World.news_of_block (heap_alloc_new w7 _)) (ints_one _) (by omega) (by unfold maxLen; omega) (by omega) (by simp; omega) (w7.heap.size + 1) (by simp) ?_; intro g9 cap9 w9 hown9 hgrow9 hat9 hlt9)
          have hb09 : Below b0 w w9 := hb08.grown hgrow9 (by simp; omega) (fun g0 h0 => (own_at hown8 g0 h0).1)
          have hbs9 : b0 ≤ w9.heap.size := by have := hgrow9.size; simp at this; omega
          rw [← ints_app] at hown9
          clear hgrow9 hat9 hown8 hb08 hown7 hb07
          have hs9 := (hs.below (hb09.mono hB)).more (Nat.le_trans hB hbs9)
          have ho9 := Sl.of_own hown9
          obtain ⟨_, _, hcap, hcl, -, -⟩ := own_form hown9
          injection hcap with hcapA hcapN hcapC
          rw [← hcapC] at hcl
          have hfit := ref_fits (cc := cc) (co := cap9) sh ord (k : Int) hs9 ho9 (Nat.le_refl _) HN.out hn' HL.out (by omega) hcl HV.out
          have hsucc := leastTo_succ sh cs (u - 1) ord k HNONE.out
          obtain ⟨ft, hft⟩ : ∃ ft, fitsR sh cs ord (k : Int) = ft := ⟨_, rfl⟩
          have HFT := Lib.hid hft
          rw [hft] at hfit hsucc
          have HFIT := Lib.hid hfit
          have HSUCC := Lib.hid hsucc
          have HOWN9 := Lib.hid hown9
          clear hft hfit hsucc hcapA hcapN hcapC hcl hown9
          go_wp2_with fail
          refine HFIT.out.mono ?_
          rintro e w10 ⟨rfl, hb10⟩
          have hb010 := hb09.trans (hb10.mono hbs9)
          have hbs10 : b0 ≤ w10.heap.size := Nat.le_trans hbs9 hb10.size
          cases ft with
          | false =>
            have HN2 : Hid (leastTo sh cs (u - 1) ord (k + 1) = none) := Lib.hid (by rw [HSUCC.out]; rfl)
            go_wp2_with fail
            go_roundw
            case rel => exact ⟨k + 1, by omega, by go_num, HN2.out, hb010, hbs10⟩
            case measure => simp [intOf]; omega
          | true =>
            have hbit : P.testBit k = false := by rw [HM.out k hlt]; exact fits_marks HFT.out
            have hlm := left_mark hlt hbit
            rw [HLF.out] at hlm
            have hv2 : ValidR cs (ord ++ [(k : Int)]) := by
              intro x hx
              rcases List.mem_append.1 hx with h | h
              · exact HV.out x h
              · obtain rfl : x = (k : Int) := by simpa using h
                have := HN.out
                omega
            have hrec := IH.out (u - 1) (by omega) (no + 1) cap9 (mark P k) w9.heap.size (ord ++ [(k : Int)]) (some ⟨g9, 0, none⟩) w10 (hs9.step (Nat.le_refl _) hb10) (ho9.step (Nat.le_refl _) hb10) hb10.size (by rw [List.length_append, HL.out]; rfl) hv2 (by omega) (.inr ⟨g9, rfl, by omega⟩) (marks_put HM.out) (by omega)
            obtain ⟨res, hres⟩ : ∃ res, leastN sh cs (u - 1) (ord ++ [(k : Int)]) = res := ⟨_, rfl⟩
            have hsu : leastTo sh cs (u - 1) ord (k + 1) = res := by rw [HSUCC.out, if_pos rfl]; exact hres
            rw [hres] at hrec
            have HREC := Lib.hid hrec
            have HSU := Lib.hid hsu
            clear hrec hsu hres hv2 hlm hbit
            go_wp2_with fail
            refine HREC.out.mono ?_
            rintro e w11 ⟨htold, hb11⟩
            have hb011 := hb010.trans (hb11.mono hbs10)
            have hbs11 : b0 ≤ w11.heap.size := Nat.le_trans hbs10 hb11.size
            cases res with
            | none =>
              obtain rfl := htold
              go_wp2_with fail
              go_roundw
              case rel => exact ⟨k + 1, by omega, by go_num, HSU.out, hb011, hbs11⟩
              case measure => simp [intOf]; omega
            | some r =>
              obtain ⟨Ar, cr, rfl, hsr2⟩ := htold
              have hall := leastTo_some sh cs (u - 1) ord (k + 1) r HSU.out (n - (k + 1))
              rw [show k + 1 + (n - (k + 1)) = n by omega] at hall
              have HALL := Lib.hid hall
              clear hall
              go_wp2_with fail
              refine bodyPost_ret (v := .tuple #[.slice Ar r.length cr, .bool true]) (by simp [results, Tryd.results13, go_sem]) rfl ⟨?_, hb011⟩
              rw [HLE.out]
              show LTold w11 _ (leastTo sh cs (u - 1) ord n)
              rw [HALL.out]
              exact ⟨Ar, cr, rfl, hsr2⟩
      · obtain rfl : k = n := by omega
        have HNONE := Lib.hid hnone
        clear hnone
        go_wp2_with fail
        refine bodyPost_ret (v := .tuple #[.slice none 0 0, .bool false]) (by simp [results, Tryd.results13, go_sem]) rfl ⟨?_, hbr⟩
        rw [HLE.out]
        show LTold wr _ (leastTo sh cs (u - 1) ord k)
        rw [HNONE.out]
        rfl
end Go.Proofs.YtboommppikfgnaaDoor
