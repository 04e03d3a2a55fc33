/- Plain law: an order that lin takes is one that the document takes.
   Conditions: none. -/
import Derived.Test.YtboommppikfgnaaDoorLinLess
namespace Go.Proofs.YtboommppikfgnaaDoor
open Go Go.RowKit

def cAt (hs : List HC) (i : Int) : Option HC := if 0 ≤ i then hs[i.toNat]? else none
def didL (hs : List HC) (pre : List Int) : List Opn := opsR (hs.map HC.rc) pre
/-- may a number come next, as lin asks: but for what is ahead in time -/
def passL (sh : Int) (hs : List HC) (pre : List Int) (id : Int) : Bool := match cAt hs id with
  | none => false
  | some c => !(pre.contains id) && (c.mayL sh && stepL sh (itemsOf sh (didL hs pre)) c)
def passTo (sh : Int) (hs : List HC) (ord : List Int) (k : Nat) : Bool := (List.range k).all fun j => match ord[j]? with
  | some id => passL sh hs (ord.take j) id
  | none => true
def fitsTo (sh : Int) (cs : List RC) (ord : List Int) (k : Nat) : Bool := (List.range k).all fun j => match ord[j]? with
  | some id => fitsR sh cs (ord.take j) id
  | none => true
/-- where a number stands in an order, from 1 on; 0: nowhere -/
def posTo (ord : List Int) : Nat → Int → Int
  | 0, _ => 0
  | k + 1, id => if ord[k]? = some id then (k : Int) + 1 else posTo ord k id
def pairOk (ord : List Int) (i j : Nat) (c d : HC) : Bool := !(decide (0 < posTo ord ord.length i) && (decide (posTo ord ord.length i < posTo ord ord.length j) && d.bef c))
def rowTo (hs : List HC) (ord : List Int) (i : Nat) (c : HC) (m : Nat) : Bool := (List.range m).all fun j => match hs[j]? with
  | some d => pairOk ord i j c d
  | none => true
def rowOk (hs : List HC) (ord : List Int) (i : Nat) : Bool := match hs[i]? with
  | some c => !(c.must && decide (posTo ord ord.length i = 0)) && rowTo hs ord i c hs.length
  | none => true
def rowsTo (hs : List HC) (ord : List Int) (m : Nat) : Bool := (List.range m).all fun i => rowOk hs ord i
def behindL (sh : Int) (hs : List HC) (ord : List Int) : Bool := passTo sh hs ord ord.length && rowsTo hs ord hs.length
def legalR (sh : Int) (cs : List RC) (ord : List Int) : Bool := fitsTo sh cs ord ord.length && wholeTo cs ord cs.length

theorem allTo_succ (f : Nat → Bool) (k : Nat) : (List.range (k + 1)).all f = ((List.range k).all f && f k) := by
  rw [List.range_succ, List.all_append]; simp
theorem allTo_false (f : Nat → Bool) (k : Nat) (h : (List.range k).all f = false) : ∀ n, k ≤ n → (List.range n).all f = false := by
  intro n hn
  cases h2 : (List.range n).all f
  · rfl
  · rw [← h]
    symm
    refine (List.all_eq_true.2 fun x hx => List.all_eq_true.1 h2 x ?_)
    rw [List.mem_range] at hx ⊢; omega
theorem allTo_at {f : Nat → Bool} {n : Nat} (h : (List.range n).all f = true) {k : Nat} (hk : k < n) : f k = true := List.all_eq_true.1 h k (List.mem_range.2 hk)

theorem cAt_nat {hs : List HC} {i : Nat} {c : HC} (h : hs[i]? = some c) : cAt hs (i : Int) = some c := by
  unfold cAt; rw [if_pos (by omega), Int.toNat_natCast]; exact h
theorem cAt_some {hs : List HC} {id : Int} {c : HC} (h : cAt hs id = some c) : 0 ≤ id ∧ id < hs.length ∧ hs[id.toNat]? = some c := by
  unfold cAt at h
  split at h
  · have := (List.getElem?_eq_some_iff.1 h).1
    exact ⟨by assumption, by omega, h⟩
  · cases h
theorem passL_at {sh : Int} {hs : List HC} {pre : List Int} {id : Int} (h : passL sh hs pre id = true) : ∃ c, 0 ≤ id ∧ id < hs.length ∧ hs[id.toNat]? = some c ∧ id ∉ pre ∧ c.mayL sh = true ∧ stepL sh (itemsOf sh (didL hs pre)) c = true := by
  unfold passL at h
  split at h
  · cases h
  · rename_i c hc
    obtain ⟨h0, h1, h2⟩ := cAt_some hc
    simp only [Bool.and_eq_true, Bool.not_eq_true'] at h
    exact ⟨c, h0, h1, h2, by simpa using h.1, h.2.1, h.2.2⟩
theorem fits_at {sh : Int} {hs : List HC} {pre : List Int} {id : Int} (h : fitsR sh (hs.map HC.rc) pre id = true) : ∃ c, 0 ≤ id ∧ id < hs.length ∧ hs[id.toNat]? = some c ∧ id ∉ pre ∧ may sh c.op = true := by
  unfold fitsR at h
  split at h
  · cases h
  · rename_i c hc
    unfold rAt at hc
    split at hc
    · rename_i h0
      rw [List.getElem?_map] at hc
      obtain ⟨d, hd, rfl⟩ := Option.map_eq_some_iff.1 hc
      have := (List.getElem?_eq_some_iff.1 hd).1
      simp only [Bool.and_eq_true, Bool.not_eq_true'] at h
      exact ⟨d, h0, by omega, hd, by simpa using h.1, h.2.1⟩
    · cases hc
theorem didL_snoc {hs : List HC} {pre : List Int} {id : Int} {c : HC} (h0 : 0 ≤ id) (hc : hs[id.toNat]? = some c) : didL hs (pre ++ [id]) = didL hs pre ++ [c.op] := by
  unfold didL opsR
  rw [List.filterMap_append]
  have e : rAt (hs.map HC.rc) id = some c.rc := by
    have := rAt_rc hc
    rwa [show ((id.toNat : Nat) : Int) = id by omega] at this
  simp [e]; rfl
theorem all_snoc {sh : Int} {did : List Opn} {o : Opn} (h : allMay sh did) (ho : may sh o = true) : allMay sh (did ++ [o]) := allMay_snoc h (of_decide_eq_true ho)
theorem step_may {sh : Int} {items : List Int} {c : HC} (h : stepL sh items c = true) : may sh c.op = true := by
  unfold stepL at h; exact (Bool.and_eq_true_iff.1 h).1
theorem pass_may {sh : Int} {hs : List HC} {ord : List Int} : ∀ k, k ≤ ord.length → passTo sh hs ord k = true → allMay sh (didL hs (ord.take k))
  | 0, _, _ => fun _ h => by cases h
  | k + 1, hk, h => by
    unfold passTo at h
    rw [allTo_succ, Bool.and_eq_true] at h
    obtain ⟨y, hy⟩ : ∃ y, ord[k]? = some y := ⟨_, List.getElem?_eq_getElem (by omega)⟩
    have h2 := h.2
    rw [hy] at h2
    obtain ⟨c, h0, -, hc, -, -, hs'⟩ := passL_at h2
    rw [take_one ord k y hy, didL_snoc h0 hc]
    exact all_snoc (pass_may k (by omega) h.1) (step_may hs')
/-- with the same things ahead: fits just if it passes and none behind it in time stands ahead -/
theorem fits_pass {sh : Int} (hsh : 1 ≤ sh ∧ sh ≤ 4) {hs : List HC} {pre : List Int} (hm : allMay sh (didL hs pre)) (id : Int) :
    fitsR sh (hs.map HC.rc) pre id = (passL sh hs pre id && match rAt (hs.map HC.rc) id with | some c => noneAhead (hs.map HC.rc) c pre | none => true) := by
  unfold fitsR passL cAt rAt
  split
  · rename_i h0
    split at h0
    · rename_i hge
      rw [List.getElem?_map] at h0
      have : hs[id.toNat]? = none := by cases h : hs[id.toNat]? with
        | none => rfl
        | some c => rw [h] at h0; cases h0
      rw [if_pos hge, this]; rfl
    · rename_i hge
      rw [if_neg hge]; rfl
  · rename_i c h0
    split at h0
    · rename_i hge
      rw [List.getElem?_map] at h0
      obtain ⟨d, hd, rfl⟩ := Option.map_eq_some_iff.1 h0
      rw [if_pos hge, hd, if_pos hge, List.getElem?_map, hd]
      simp only [Option.map_some]
      have e1 : d.rc.op = d.op := rfl
      have e2 : d.rc.ended = d.ended := rfl
      have e3 : d.rc.code = d.code := rfl
      unfold HC.mayL stepL
      rw [e1, e2, e3]
      have hdid : opsR (hs.map HC.rc) pre = didL hs pre := rfl
      rw [hdid]
      cases hmy : may sh d.op
      · simp
      · rw [told_ref hsh hm d hmy]
        have hpe : (!(decide (0 ≤ d.ended) && !(d.code == 0))) = (decide (d.ended < 0) || (d.code == 0)) := by
          by_cases h : d.ended < 0
          · have : ¬ 0 ≤ d.ended := by omega
            simp [h, this]
          · have : 0 ≤ d.ended := by omega
            simp [h, this]
        rw [hpe]
        cases pre.contains id <;> cases (decide (d.ended < 0) || (d.code == 0)) <;> cases noneAhead (hs.map HC.rc) d.rc pre <;> cases d.told (spTell (itemsOf sh (didL hs pre)) d.op) <;> rfl
    · cases h0
theorem fitsTo_pass {sh : Int} (hsh : 1 ≤ sh ∧ sh ≤ 4) {hs : List HC} {ord : List Int} : ∀ k, k ≤ ord.length → fitsTo sh (hs.map HC.rc) ord k = true → passTo sh hs ord k = true
  | 0, _, _ => rfl
  | k + 1, hk, h => by
    unfold fitsTo at h
    rw [allTo_succ, Bool.and_eq_true] at h
    have ih := fitsTo_pass hsh k (by omega) h.1
    unfold passTo at ih ⊢
    rw [allTo_succ, ih, Bool.true_and]
    obtain ⟨y, hy⟩ : ∃ y, ord[k]? = some y := ⟨_, List.getElem?_eq_getElem (by omega)⟩
    have h2 := h.2
    rw [hy] at h2 ⊢
    simp only at h2 ⊢
    rw [fits_pass hsh (pass_may k (by omega) ih), Bool.and_eq_true] at h2
    exact h2.1

theorem posTo_no {ord : List Int} {id : Int} : ∀ k, id ∉ ord.take k → posTo ord k id = 0
  | 0, _ => rfl
  | k + 1, h => by
    have h1 : id ∉ ord.take k := fun hh => by
      have : ord.take k <+: ord.take (k + 1) := List.take_prefix_take_left (by omega)
      exact absurd (this.subset hh) h
    simp only [posTo]
    rw [if_neg, posTo_no k h1]
    intro e
    apply h
    rw [take_one ord k id e]
    simp
theorem posTo_le {ord : List Int} {id : Int} : ∀ k, 0 ≤ posTo ord k id ∧ posTo ord k id ≤ k
  | 0 => ⟨Int.le_refl _, Int.le_refl _⟩
  | k + 1 => by
    simp only [posTo]
    have := posTo_le (ord := ord) (id := id) k
    split <;> omega
theorem posTo_mem {ord : List Int} {id : Int} : ∀ k, 0 < posTo ord k id → ∃ m, m < k ∧ ord[m]? = some id ∧ posTo ord k id = (m : Int) + 1
  | 0, h => by simp [posTo] at h
  | k + 1, h => by
    simp only [posTo] at h ⊢
    split
    · rename_i e; exact ⟨k, by omega, e, rfl⟩
    · rename_i e
      rw [if_neg e] at h
      obtain ⟨m, h1, h2, h3⟩ := posTo_mem k h
      exact ⟨m, by omega, h2, h3⟩
/-- no number twice -/
def Once (ord : List Int) : Prop := ∀ (k : Nat) (y : Int), ord[k]? = some y → y ∉ ord.take k
theorem posTo_at {ord : List Int} (ho : Once ord) {m : Nat} {y : Int} (hy : ord[m]? = some y) : ∀ k, m < k → k ≤ ord.length → posTo ord k y = (m : Int) + 1
  | 0, h, _ => by omega
  | k + 1, h, hk => by
    simp only [posTo]
    by_cases e : m = k
    · subst e; rw [if_pos hy]
    · rw [if_neg, posTo_at ho hy k (by omega) (by omega)]
      intro h2
      refine ho k y h2 ?_
      have : (ord.take k)[m]? = some y := by rw [List.getElem?_take, if_pos (by omega)]; exact hy
      exact List.mem_of_getElem? this
theorem once_of {sh : Int} {hs : List HC} {ord : List Int} (h : passTo sh hs ord ord.length = true) : Once ord := by
  intro k y hy
  have hk := (List.getElem?_eq_some_iff.1 hy).1
  have := allTo_at h hk
  simp only [hy] at this
  obtain ⟨c, -, -, -, h2, -⟩ := passL_at this
  exact h2
theorem valid_of {sh : Int} {hs : List HC} {ord : List Int} (h : passTo sh hs ord ord.length = true) : ∀ (k : Nat) (y : Int), ord[k]? = some y → ∃ (i : Nat) (c : HC), y = (i : Int) ∧ hs[i]? = some c := by
  intro k y hy
  have hk := (List.getElem?_eq_some_iff.1 hy).1
  have := allTo_at h hk
  simp only [hy] at this
  obtain ⟨c, h0, -, hc, -⟩ := passL_at this
  exact ⟨y.toNat, c, by omega, hc⟩
theorem posTo_zero {ord : List Int} {id : Int} : posTo ord ord.length id = 0 ↔ id ∉ ord := by
  constructor
  · intro h hm
    obtain ⟨m, hm2, he⟩ := List.mem_iff_getElem.1 hm
    have h2 : ∀ k, m < k → k ≤ ord.length → 0 < posTo ord k id := by
      intro k
      induction k with
      | zero => intro h; omega
      | succ k ih =>
        intro h1 h2
        simp only [posTo]
        split
        · omega
        · rename_i e
          have : m ≠ k := fun e2 => e (by subst e2; rw [List.getElem?_eq_getElem hm2, he])
          exact ih (by omega) (by omega)
    have := h2 ord.length hm2 (Nat.le_refl _)
    omega
  · intro h
    exact posTo_no _ (by rw [List.take_length]; exact h)
theorem bef_span (c d : HC) : spanB d.rc.ended c.rc.began = d.bef c := by
  unfold spanB HC.bef HC.rc
  by_cases h : d.ended < 0
  · have : ¬ 0 ≤ d.ended := by omega
    simp [h]
  · have : 0 ≤ d.ended := by omega
    simp [h]

theorem behind_legal {sh : Int} (hsh : 1 ≤ sh ∧ sh ≤ 4) {hs : List HC} (_ : Numbered hs) (ord : List Int) : behindL sh hs ord = legalR sh (hs.map HC.rc) ord := by
  apply Bool.eq_iff_iff.2
  unfold behindL legalR
  rw [Bool.and_eq_true, Bool.and_eq_true, List.length_map]
  constructor
  · rintro ⟨hp, hr⟩
    have hon := once_of hp
    have hva := valid_of hp
    constructor
    · refine List.all_eq_true.2 fun k hk => ?_
      rw [List.mem_range] at hk
      obtain ⟨y, hy⟩ : ∃ y, ord[k]? = some y := ⟨_, List.getElem?_eq_getElem hk⟩
      have hpk := allTo_at hp hk
      simp only [hy] at hpk ⊢
      have hpre : passTo sh hs ord k = true := List.all_eq_true.2 fun j hj => allTo_at hp (by rw [List.mem_range] at hj; omega)
      rw [fits_pass hsh (pass_may k (by omega) hpre), hpk, Bool.true_and]
      obtain ⟨i, d, rfl, hd⟩ := hva k y hy
      rw [rAt_rc hd]
      simp only
      refine List.all_eq_true.2 fun x hx => ?_
      obtain ⟨m, hm, he⟩ := List.mem_iff_getElem.1 hx
      rw [List.length_take] at hm
      have hxm : ord[m]? = some x := by
        rw [List.getElem_take] at he
        rw [List.getElem?_eq_getElem (by omega), he]
      obtain ⟨i2, c, rfl, hc⟩ := hva m x hxm
      rw [rAt_rc hc]
      simp only
      rw [bef_span]
      have e1 := posTo_at hon hxm ord.length (by omega) (Nat.le_refl _)
      have e2 := posTo_at hon hy ord.length hk (Nat.le_refl _)
      have hrow := allTo_at hr (k := i2) (List.getElem?_eq_some_iff.1 hc).1
      unfold rowOk at hrow
      rw [hc] at hrow
      simp only [Bool.and_eq_true] at hrow
      have hpair := allTo_at hrow.2 (k := i) (List.getElem?_eq_some_iff.1 hd).1
      simp only [hd] at hpair
      unfold pairOk at hpair
      rw [e1, e2] at hpair
      have d1 : decide ((0 : Int) < (m : Int) + 1) = true := decide_eq_true (by omega)
      have d2 : decide ((m : Int) + 1 < (k : Int) + 1) = true := decide_eq_true (by omega)
      rw [d1, d2] at hpair
      simpa using hpair
    · refine List.all_eq_true.2 fun i hi => ?_
      rw [List.mem_range] at hi
      obtain ⟨c, hc⟩ : ∃ c, hs[i]? = some c := ⟨_, List.getElem?_eq_getElem hi⟩
      have hrow := allTo_at hr hi
      unfold rowOk at hrow
      rw [hc] at hrow
      simp only [Bool.and_eq_true] at hrow
      rw [List.getElem?_map, hc]
      simp only [Option.map_some]
      rw [must_rc]
      have h1 := hrow.1
      cases hmu : c.must
      · rfl
      · rw [hmu] at h1
        have h2 : ¬ posTo ord ord.length (i : Int) = 0 := by simpa using h1
        have h3 : (i : Int) ∈ ord := Classical.byContradiction fun hno => h2 (posTo_zero.2 hno)
        have : ord.contains (i : Int) = true := by simpa using h3
        rw [this]; rfl
  · rintro ⟨hf, hw⟩
    have hp := fitsTo_pass hsh ord.length (Nat.le_refl _) hf
    refine ⟨hp, ?_⟩
    have hon := once_of hp
    have hva := valid_of hp
    refine List.all_eq_true.2 fun i hi => ?_
    rw [List.mem_range] at hi
    obtain ⟨c, hc⟩ : ∃ c, hs[i]? = some c := ⟨_, List.getElem?_eq_getElem hi⟩
    unfold rowOk
    rw [hc]
    simp only [Bool.and_eq_true]
    constructor
    · have h1 := allTo_at hw hi
      simp only [List.getElem?_map, hc, Option.map_some] at h1
      rw [must_rc] at h1
      cases hmu : c.must
      · rfl
      · rw [hmu] at h1
        have h2 : (i : Int) ∈ ord := by simpa using h1
        have h3 : ¬ posTo ord ord.length (i : Int) = 0 := fun e => posTo_zero.1 e h2
        simp [h3]
    · refine List.all_eq_true.2 fun j hj => ?_
      rw [List.mem_range] at hj
      obtain ⟨d, hd⟩ : ∃ d, hs[j]? = some d := ⟨_, List.getElem?_eq_getElem hj⟩
      simp only [hd]
      unfold pairOk
      by_cases h1 : 0 < posTo ord ord.length (i : Int)
      · by_cases h2 : posTo ord ord.length (i : Int) < posTo ord ord.length (j : Int)
        · obtain ⟨m, hm, hym, em⟩ := posTo_mem ord.length h1
          obtain ⟨k, hk, hyk, ek⟩ := posTo_mem (ord := ord) (id := (j : Int)) ord.length (by omega)
          have hmk : m < k := by omega
          have hfk := allTo_at hf hk
          simp only [hyk] at hfk
          have hpre : passTo sh hs ord k = true := List.all_eq_true.2 fun j hj => allTo_at hp (by rw [List.mem_range] at hj; omega)
          rw [fits_pass hsh (pass_may k (by omega) hpre), rAt_rc hd, Bool.and_eq_true] at hfk
          have hmem : (i : Int) ∈ ord.take k := by
            have : (ord.take k)[m]? = some (i : Int) := by rw [List.getElem?_take, if_pos hmk]; exact hym
            exact List.mem_of_getElem? this
          have h3 := List.all_eq_true.1 hfk.2 (i : Int) hmem
          rw [rAt_rc hc] at h3
          simp only at h3
          rw [bef_span] at h3
          have h4 : d.bef c = false := by simpa using h3
          rw [h4]; simp
        · rw [decide_eq_false h2]; simp
      · rw [decide_eq_false h1]; simp
end Go.Proofs.YtboommppikfgnaaDoor
