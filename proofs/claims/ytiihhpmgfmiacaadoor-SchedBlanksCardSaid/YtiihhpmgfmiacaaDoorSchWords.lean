/- Plain law of scripts: the picks of a text, of texts behind one another, and how long a text is.
   Conditions: none. -/
import Derived.Test.YtiihhpmgfmiacaaDoorSchText
namespace Go.Proofs.YtiihhpmgfmiacaaDoor
open Go Go.RowKit

theorem ofNat_dig (d : Nat) (h : d < 10) : (UInt8.ofNat (48 + d)).toNat = 48 + d := by
  rw [UInt8.toNat_ofNat']; omega
theorem dig_isDig (d : Nat) (h : d < 10) : isDig (UInt8.ofNat (48 + d)) = true := by
  unfold isDig; rw [ofNat_dig d h]; simp; omega
theorem dec_all (u : Nat) : (Lib.decDigits u).all isDig = true := by
  induction u using Nat.strongRecOn with
  | _ u ih =>
    rw [Lib.decDigits]
    split
    · simp only [List.all_cons, List.all_nil, Bool.and_true]; exact dig_isDig u (by assumption)
    · rw [List.all_append, ih (u / 10) (by omega)]
      simp only [List.all_cons, List.all_nil, Bool.and_true, Bool.true_and]; exact dig_isDig (u % 10) (by omega)
theorem dec_val (u : Nat) : valOf (Lib.decDigits u) = u := by
  induction u using Nat.strongRecOn with
  | _ u ih =>
    rw [Lib.decDigits]
    split
    · have := ofNat_dig u (by assumption)
      simp only [valOf, List.foldl_cons, List.foldl_nil, this]; omega
    · rw [valOf_snoc, ih (u / 10) (by omega), ofNat_dig (u % 10) (by omega)]; omega
theorem nDigits_le : ∀ (k u : Nat), u < 10 ^ (k + 1) → Lib.nDigits u ≤ k + 1
  | 0, u, h => by rw [Lib.nDigits_small (by simpa using h)]; omega
  | k + 1, u, h => by
    by_cases h1 : u < 10
    · rw [Lib.nDigits_small h1]; omega
    · rw [Lib.nDigits_big h1]
      rw [Nat.pow_succ] at h
      have := nDigits_le k (u / 10) (by omega)
      omega
theorem numL_dec (u : Nat) (h : u ≤ 99999) : numL (Lib.decDigits u) = some u := by
  have h1 := Lib.decDigits_length u
  have h2 := Lib.nDigits_pos u
  have h3 := nDigits_le 4 u (by simpa using Nat.lt_succ_of_le h)
  unfold numL
  rw [if_neg (by omega), if_pos (dec_all u), dec_val]
theorem itoa_eq (n : Int) (h : 0 ≤ n) : Lib.itoa n = Lib.decDigits n.toNat := by
  unfold Lib.itoa; rw [if_neg (by omega)]
theorem dig_ne (l : List UInt8) (h : l.all isDig = true) (c : UInt8) (hc : isDig c = false) : c ∉ l := fun hm => by
  have := List.all_eq_true.1 h c hm
  rw [hc] at this; cases this
theorem index_no (c : UInt8) : ∀ l : List UInt8, c ∉ l → Lib.index l [c] = -1
  | [], _ => rfl
  | d :: l, h => by
    have h1 : ¬ c = d := fun e => h (by rw [e]; exact List.mem_cons_self ..)
    rw [Lib.index, index_no c l (fun e => h (List.mem_cons_of_mem _ e))]
    simp [List.isPrefixOf, h1]
theorem index_yes (c : UInt8) (r : List UInt8) : ∀ l : List UInt8, c ∉ l → Lib.index (l ++ c :: r) [c] = (l.length : Int)
  | [], _ => by rw [List.nil_append, Lib.index]; simp [List.isPrefixOf]
  | d :: l, h => by
    have h1 : ¬ c = d := fun e => h (by rw [e]; exact List.mem_cons_self ..)
    rw [List.cons_append, Lib.index, index_yes c r l (fun e => h (List.mem_cons_of_mem _ e))]
    have h2 : ¬ (((l.length : Nat) : Int) == -1) = true := fun e => by have := beq_iff_eq.1 e; omega
    rw [if_neg h2]
    simp [List.isPrefixOf, h1]
theorem cut_no (l : List UInt8) (c : UInt8) (h : c ∉ l) : Lib.cut l [c] = (l, [], false) := by
  unfold Lib.cut; rw [index_no c l h]; rfl
theorem cut_yes (l r : List UInt8) (c : UInt8) (h : c ∉ l) : Lib.cut (l ++ c :: r) [c] = (l, r, true) := by
  unfold Lib.cut; rw [index_yes c r l h, if_pos (by omega)]
  simp

theorem fits_iff {p : Pk} (h : p.fits = true) : (0 ≤ p.th ∧ p.th ≤ 99999) ∧ (0 ≤ p.tm ∧ p.tm ≤ 99999) := by simpa [Pk.fits] using h
theorem text_entry (p : Pk) (h : p.fits = true) : entOk p.text = true ∧ entPk p.text = p ∧ p.text.isEmpty = false ∧ (32 : UInt8) ∉ p.text := by
  obtain ⟨⟨h0, h1⟩, h2, h3⟩ := fits_iff h
  have a1 := dec_all p.th.toNat
  have a2 := dec_all p.tm.toNat
  have n1 := numL_dec p.th.toNat (by omega)
  have n2 := numL_dec p.tm.toNat (by omega)
  have l1 := Lib.decDigits_length p.th.toNat
  have l2 := Lib.nDigits_pos p.th.toNat
  have c42 : isDig 42 = false := by decide
  have c32 : isDig 32 = false := by decide
  have ne : Lib.decDigits p.th.toNat ≠ [] := fun e => by rw [e] at l1; simp at l1; omega
  unfold Pk.text
  rw [itoa_eq _ h0, itoa_eq _ h2]
  by_cases hm : p.tm = 1
  · rw [if_pos hm]
    have hc := cut_no _ 42 (dig_ne _ a1 42 c42)
    refine ⟨?_, ?_, ?_, dig_ne _ a1 32 c32⟩
    · unfold entOk; rw [hc]; simp [n1]
    · unfold entPk entTh entTm; rw [hc]; simp only [n1, Option.getD_some]
      cases p; simp at hm h0 ⊢; omega
    · cases hd : Lib.decDigits p.th.toNat with
      | nil => exact absurd hd ne
      | cons _ _ => rfl
  · rw [if_neg hm]
    have hc := cut_yes (Lib.decDigits p.th.toNat) (Lib.decDigits p.tm.toNat) 42 (dig_ne _ a1 42 c42)
    refine ⟨?_, ?_, ?_, ?_⟩
    · unfold entOk; rw [hc]; simp [n1, n2]
    · unfold entPk entTh entTm; rw [hc]; simp only [n1, n2, Option.getD_some, if_true]
      cases p; simp at h0 h2 ⊢; omega
    · cases hd : Lib.decDigits p.th.toNat with
      | nil => exact absurd hd ne
      | cons _ _ => rfl
    · intro hm
      rcases List.mem_append.1 hm with hm | hm
      · exact dig_ne _ a1 32 c32 hm
      · rcases List.mem_cons.1 hm with hm | hm
        · exact absurd hm (by decide)
        · exact dig_ne _ a2 32 c32 hm

theorem words_single : ∀ l : List UInt8, (32 : UInt8) ∉ l → words l = [l]
  | [], _ => rfl
  | c :: l, h => by
    have h1 : ¬ c = 32 := fun e => h (by rw [e]; exact List.mem_cons_self ..)
    rw [words, if_neg h1, words_single l (fun e => h (List.mem_cons_of_mem _ e))]
theorem words_blank : ∀ a r : List UInt8, words (a ++ 32 :: r) = words a ++ words r
  | [], r => by simp [words]
  | c :: a, r => by
    have ih := words_blank a r
    rw [List.cons_append]
    simp only [words]
    rw [ih]
    split
    · simp
    · have hne := words_ne a
      cases hw : words a with
      | nil => exact absurd hw hne
      | cons x l => simp
theorem words_tail : ∀ (r : List (List UInt8)) (x : List UInt8), (∀ y ∈ x :: r, (32 : UInt8) ∉ y) → words (Lib.join (x :: r) [32]) = x :: r
  | [], x, h => by rw [Lib.join_one, words_single x (h x (List.mem_cons_self ..))]
  | y :: r, x, h => by
    have ih := words_tail r y (fun z hz => h z (List.mem_cons_of_mem _ hz))
    have : Lib.join (x :: y :: r) [32] = x ++ 32 :: Lib.join (y :: r) [32] := by
      rw [Lib.join_cons, Lib.join_cons]; simp [Lib.joinTail]
    rw [this, words_blank, ih, words_single x (h x (List.mem_cons_self ..))]; rfl
theorem textsL_entry (ps : List Pk) : ∀ x ∈ textsL ps, (entOk x = true ∧ x.isEmpty = false) ∧ (32 : UInt8) ∉ x := by
  intro x hx
  obtain ⟨p, hp, rfl⟩ := List.mem_map.1 hx
  obtain ⟨h1, -, h2, h3⟩ := text_entry p (List.mem_filter.1 hp).2
  exact ⟨⟨h1, h2⟩, h3⟩
theorem filter_all {A : Type} (f : A → Bool) (l : List A) (h : ∀ x ∈ l, f x = true) : l.filter f = l := List.filter_eq_self.2 h
theorem filter_nix {A : Type} (f : A → Bool) (l : List A) (h : ∀ x ∈ l, f x = false) : l.filter f = [] := by
  rw [List.filter_eq_nil_iff]; intro x hx e; rw [h x hx] at e; cases e
theorem words_text (ps : List Pk) : picksL (words (textL ps)) = ps.filter Pk.fits ∧ badL (words (textL ps)) = 0 := by
  have he := textsL_entry ps
  unfold textL
  cases ht : textsL ps with
  | nil =>
    have : ps.filter Pk.fits = [] := by
      unfold textsL at ht; exact List.map_eq_nil_iff.1 ht
    rw [this]; exact ⟨rfl, rfl⟩
  | cons x r =>
    rw [ht] at he
    rw [words_tail r x (fun y hy => (he y hy).2), ← ht]
    rw [← ht] at he
    constructor
    · unfold picksL
      rw [filter_all _ _ (fun y hy => by rw [(he y hy).1.1, (he y hy).1.2]; rfl)]
      unfold textsL
      rw [List.map_map]
      conv => rhs; rw [← List.map_id (ps.filter Pk.fits)]
      refine List.map_congr_left fun p hp => ?_
      exact (text_entry p (List.mem_filter.1 hp).2).2.1
    · unfold badL
      rw [filter_nix _ _ (fun y hy => by rw [(he y hy).1.1]; simp)]; rfl

/-- how many digits -/
def widL (n : Int) : Nat := Lib.nDigits n.toNat
theorem itoa_wid (n : Int) (h : 0 ≤ n) : (Lib.itoa n).length = widL n := by rw [itoa_eq n h, Lib.decDigits_length]; rfl
theorem text_len (p : Pk) (h : p.fits = true) : p.text.length = widL p.th + if p.tm = 1 then 0 else 1 + widL p.tm := by
  obtain ⟨⟨h0, h1⟩, h2, h3⟩ := fits_iff h
  unfold Pk.text
  split
  · rw [itoa_wid _ h0]; omega
  · rw [List.length_append, List.length_cons, itoa_wid _ h0, itoa_wid _ h2]; omega
theorem join_snoc (xs : List (List UInt8)) (x : List UInt8) : (Lib.join (xs ++ [x]) [32]).length = (Lib.join xs [32]).length + (if xs.length = 0 then 0 else 1) + x.length := by
  cases xs with
  | nil => simp [Lib.join_one, Lib.join_nil]
  | cons y r =>
    rw [List.cons_append, Lib.join_length, Lib.join_length]
    simp [Lib.lens]; omega

/-- picks of more scripts -/
theorem picks_blank (a r : List UInt8) : picksL (words (a ++ 32 :: r)) = picksL (words a) ++ picksL (words r) := by rw [words_blank, picksL_app]
theorem bad_blank (a r : List UInt8) : badL (words (a ++ 32 :: r)) = badL (words a) + badL (words r) := by rw [words_blank, badL_app]
theorem words_gap : ∀ n : Nat, picksL (words (List.replicate n 32)) = [] ∧ badL (words (List.replicate n 32)) = 0
  | 0 => ⟨rfl, rfl⟩
  | n + 1 => by
    obtain ⟨h1, h2⟩ := words_gap n
    have : List.replicate (n + 1) (32 : UInt8) = [] ++ 32 :: List.replicate n 32 := by rw [List.replicate_succ]; rfl
    rw [this, picks_blank, bad_blank, h1, h2]; exact ⟨rfl, rfl⟩
theorem gap_front : ∀ (n : Nat) (r : List UInt8), picksL (words (List.replicate n 32 ++ r)) = picksL (words r) ∧ badL (words (List.replicate n 32 ++ r)) = badL (words r)
  | 0, r => ⟨rfl, rfl⟩
  | n + 1, r => by
    obtain ⟨h1, h2⟩ := gap_front n r
    have : List.replicate (n + 1) (32 : UInt8) ++ r = [] ++ 32 :: (List.replicate n 32 ++ r) := by rw [List.replicate_succ]; rfl
    rw [this, picks_blank, bad_blank, h1, h2]
    exact ⟨rfl, by show badL [[]] + badL (words r) = badL (words r); simp [badL]⟩
theorem gap_mid (n : Nat) (hn : 1 ≤ n) (a r : List UInt8) : picksL (words (a ++ (List.replicate n 32 ++ r))) = picksL (words a) ++ picksL (words r) ∧ badL (words (a ++ (List.replicate n 32 ++ r))) = badL (words a) + badL (words r) := by
  obtain ⟨m, rfl⟩ : ∃ m, n = m + 1 := ⟨n - 1, by omega⟩
  have : a ++ (List.replicate (m + 1) (32 : UInt8) ++ r) = a ++ 32 :: (List.replicate m 32 ++ r) := by rw [List.replicate_succ]; rfl
  rw [this, picks_blank, bad_blank, (gap_front m r).1, (gap_front m r).2]
  exact ⟨rfl, rfl⟩
theorem gap_all (n : Nat) (hn : 1 ≤ n) (a b : List UInt8) : picksL (words (List.replicate n 32 ++ (a ++ (List.replicate n 32 ++ (b ++ List.replicate n 32))))) = picksL (words a) ++ picksL (words b)
    ∧ badL (words (List.replicate n 32 ++ (a ++ (List.replicate n 32 ++ (b ++ List.replicate n 32))))) = badL (words a) + badL (words b) := by
  have h1 := gap_mid n hn a (b ++ List.replicate n 32)
  have h2 := gap_mid n hn b []
  rw [List.append_nil] at h2
  rw [(gap_front n _).1, (gap_front n _).2, h1.1, h1.2, h2.1, h2.2]
  constructor
  · rw [show picksL (words []) = [] from rfl, List.append_nil]
  · rw [show badL (words []) = 0 from rfl, Nat.add_zero]
theorem entTh_lt (x : List UInt8) : entTh x ≤ 99999 := by
  unfold entTh
  cases h : numL (Lib.cut x [42]).1 with
  | none => simp
  | some n => exact numL_lt h
theorem entTm_lt (x : List UInt8) : entTm x ≤ 99999 := by
  unfold entTm
  split
  · cases h : numL (Lib.cut x [42]).2.1 with
    | none => simp
    | some n => exact numL_lt h
  · omega
theorem picksL_fit (ws : List (List UInt8)) : (picksL ws).filter Pk.fits = picksL ws := by
  refine filter_all _ _ fun p hp => ?_
  obtain ⟨x, -, rfl⟩ := List.mem_map.1 hp
  have h1 := entTh_lt x
  have h2 := entTm_lt x
  have h3 : ((entTh x : Nat) : Int) ≤ 99999 := by omega
  have h4 : ((entTm x : Nat) : Int) ≤ 99999 := by omega
  have h5 : (0 : Int) ≤ ((entTh x : Nat) : Int) := by omega
  have h6 : (0 : Int) ≤ ((entTm x : Nat) : Int) := by omega
  unfold Pk.fits
  show ((decide (0 ≤ ((entTh x : Nat) : Int)) && decide (((entTh x : Nat) : Int) ≤ 99999)) && (decide (0 ≤ ((entTm x : Nat) : Int)) && decide (((entTm x : Nat) : Int) ≤ 99999))) = true
  rw [decide_eq_true h3, decide_eq_true h4, decide_eq_true h5, decide_eq_true h6]; rfl
end Go.Proofs.YtiihhpmgfmiacaaDoor
