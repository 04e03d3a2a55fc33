/- Plain law of the search over calls of which none overlap.
   Conditions: none. -/
import Derived.Test.YtboommppikfgnaaDoorLinSearch
namespace Go.Proofs.YtboommppikfgnaaDoor
open Go Go.RowKit

/-- one behind the other, all ended, each one of the shape -/
structure Seq (sh : Int) (cs : List HC) : Prop where
  num : Numbered cs
  bef : ∀ (i j : Nat) (c d : HC), i < j → cs[i]? = some c → cs[j]? = some d → c.ended < d.began
  fin : ∀ (i : Nat) (c : HC), cs[i]? = some c → 0 ≤ c.ended ∧ c.began ≤ c.ended
  may : ∀ (i : Nat) (c : HC), cs[i]? = some c → may sh c.op = true
/-- the search, call by call -/
def goSeq (sh : Int) : List HC → List Int → Option (List Int)
  | [], _ => some []
  | c :: r, items => if c.code = 0 then (if c.told (spTell items c.op) then (goSeq sh r (spDo sh items c.op)).map (c.id :: ·) else none) else goSeq sh r items
def atSeq (cs : List HC) (j P : Nat) : Prop := ∀ (i : Nat) (c : HC), cs[i]? = some c → isIn P c = (decide (i < j) && decide (c.code = 0))

theorem firstOf_only {g : HC → Option (List Int)} {cs : List HC} {j : Nat} {c : HC} (hc : cs[j]? = some c) (h : ∀ (i : Nat) (d : HC), i ≠ j → cs[i]? = some d → g d = none) : firstOf g cs = g c := by
  have hj := (List.getElem?_eq_some_iff.1 hc).1
  have e1 : cs = cs.take j ++ (c :: cs.drop (j + 1)) := by
    have h1 := List.take_append_drop j cs
    have h2 : cs.drop j = c :: cs.drop (j + 1) := by
      rw [List.drop_eq_getElem_cons hj]
      have := (List.getElem?_eq_some_iff.1 hc).2
      rw [this]
    rw [h2] at h1
    exact h1.symm
  have hpre : firstOf g (cs.take j) = none := firstOf_none fun d hd => by
    obtain ⟨i, hi, he⟩ := List.mem_iff_getElem.1 hd
    have hil : i < j := by rw [List.length_take] at hi; omega
    refine h i d (by omega) ?_
    rw [← he, List.getElem_take]
    exact List.getElem?_eq_getElem (by omega)
  have hpost : firstOf g (cs.drop (j + 1)) = none := firstOf_none fun d hd => by
    obtain ⟨i, hi, he⟩ := List.mem_iff_getElem.1 hd
    have hl : j + 1 + i < cs.length := by rw [List.length_drop] at hi; omega
    refine h (j + 1 + i) d (by omega) ?_
    rw [← he, List.getElem_drop]
    exact List.getElem?_eq_getElem hl
  have e2 : firstOf g cs = firstOf g (cs.take j ++ (c :: cs.drop (j + 1))) := by rw [← e1]
  rw [e2, firstOf_app, hpre]
  simp only [firstOf]
  rw [hpost]
  cases g c <;> rfl

section
variable {sh : Int} {cs : List HC}
theorem Seq.must_of (S : Seq sh cs) {i : Nat} {c : HC} (hc : cs[i]? = some c) : c.must = decide (c.code = 0) := by
  have h1 := (S.fin i c hc).1
  unfold HC.must
  have : decide (c.ended < 0) = false := by simp; omega
  rw [this]
  by_cases h : c.code = 0
  · simp [h]
  · simp [h]
theorem Seq.bef_of (S : Seq sh cs) {i j : Nat} {c d : HC} (hc : cs[i]? = some c) (hd : cs[j]? = some d) : c.bef d = decide (i < j) := by
  have h1 := S.fin i c hc
  have h2 := S.fin j d hd
  unfold HC.bef
  have e1 : decide (c.ended < 0) = false := by simp; omega
  rw [e1]
  by_cases h : i < j
  · have := S.bef i j c d h hc hd
    simp [h, this]
  · have : ¬ c.ended < d.began := by
      rcases Nat.lt_or_ge j i with hji | hji
      · have := S.bef j i d c hji hd hc; omega
      · obtain rfl : i = j := by omega
        rw [hc] at hd; injection hd with hd; subst hd; omega
    simp [h, this]
theorem Seq.mayL_of (S : Seq sh cs) {i : Nat} {c : HC} (hc : cs[i]? = some c) : c.mayL sh = decide (c.code = 0) := by
  have h1 := (S.fin i c hc).1
  unfold HC.mayL
  have : decide (c.ended < 0) = false := by simp; omega
  rw [this, S.may i c hc]
  by_cases h : c.code = 0 <;> simp [h]
theorem Seq.told_of (S : Seq sh cs) {i : Nat} {c : HC} (hc : cs[i]? = some c) (items : List Int) : stepL sh items c = c.told (spTell items c.op) := by
  unfold stepL; rw [S.may i c hc]; rfl
/-- only the first call that isn't placed may stand next -/
theorem Seq.next_first (S : Seq sh cs) {P i j : Nat} {c d : HC} (hc : cs[i]? = some c) (hd : cs[j]? = some d) (hn : nextL sh cs P d = true) (hm : c.code = 0) (hin : isIn P c = false) : j ≤ i := by
  unfold nextL at hn
  have h1 := (Bool.and_eq_true_iff.1 hn).2
  have h2 := List.all_eq_true.1 h1 c (List.mem_of_getElem? hc)
  rw [S.must_of hc, S.bef_of hc hd, hin] at h2
  simp [hm] at h2
  omega
theorem Seq.branch (S : Seq sh cs) : Branch sh cs 1 := by
  intro P
  have key : ∀ (l : List HC), l.Pairwise (fun c d => ¬ (nextL sh cs P c = true ∧ nextL sh cs P d = true)) → (l.filter (nextL sh cs P)).length ≤ 1 := by
    intro l
    induction l with
    | nil => simp
    | cons c l ih =>
      intro h
      rw [List.pairwise_cons] at h
      rw [List.filter_cons]
      split
      · have : l.filter (nextL sh cs P) = [] := by
          rw [List.filter_eq_nil_iff]
          intro d hd hn
          exact h.1 d hd ⟨by assumption, hn⟩
        rw [this]; simp
      · exact ih h.2
  refine key cs ?_
  rw [List.pairwise_iff_getElem]
  intro i j hi hj hij ⟨h1, h2⟩
  have e1 : cs[i]? = some cs[i] := List.getElem?_eq_getElem hi
  have e2 : cs[j]? = some cs[j] := List.getElem?_eq_getElem hj
  have hin : isIn P cs[i] = false := by
    unfold nextL at h1
    cases hh : isIn P cs[i]
    · rfl
    · rw [hh] at h1; simp at h1
  have hm : cs[i].code = 0 := by
    have : cs[i].mayL sh = true := by
      unfold nextL at h1
      exact (Bool.and_eq_true_iff.1 (Bool.and_eq_true_iff.1 h1).1).2
    rw [S.mayL_of e1] at this
    simpa using this
  have := S.next_first e1 e2 h2 hm hin
  omega
theorem Seq.find (S : Seq sh cs) : ∀ (u j P : Nat) (items : List Int), cs.length - j = u → j ≤ cs.length → atSeq cs j P → findL sh cs P items = goSeq sh (cs.drop j) items := by
  intro u
  induction u with
  | zero =>
    intro j P items hu hj hat
    have hj' : j = cs.length := by omega
    rw [findL_go sh cs S.num, hj', List.drop_length]
    have hw : wholeL cs P = true := by
      unfold wholeL
      rw [List.all_eq_true]
      intro c hc
      obtain ⟨i, hi, he⟩ := List.mem_iff_getElem.1 hc
      have e1 : cs[i]? = some c := by rw [List.getElem?_eq_getElem hi, he]
      rw [S.must_of e1, hat i c e1]
      have : decide (i < j) = true := by simp; omega
      rw [this]
      by_cases h : c.code = 0 <;> simp [h]
    rw [hw]; rfl
  | succ u ih =>
    intro j P items hu hj hat
    have hjl : j < cs.length := by omega
    obtain ⟨c, hc⟩ : ∃ c, cs[j]? = some c := ⟨_, List.getElem?_eq_getElem hjl⟩
    have hdrop : cs.drop j = c :: cs.drop (j + 1) := by
      rw [List.drop_eq_getElem_cons hjl]
      have := (List.getElem?_eq_some_iff.1 hc).2
      rw [this]
    rw [hdrop]
    simp only [goSeq]
    by_cases h0 : c.code = 0
    · rw [if_pos h0]
      have hinc : isIn P c = false := by rw [hat j c hc]; simp
      have hw : wholeL cs P = false := by
        cases hh : wholeL cs P
        · rfl
        · have := List.all_eq_true.1 hh c (List.mem_of_getElem? hc)
          rw [S.must_of hc, hinc] at this
          simp [h0] at this
      rw [findL_go sh cs S.num, hw, if_neg (by decide)]
      have hnx : nextL sh cs P c = true := by
        unfold nextL
        rw [hinc, S.mayL_of hc]
        have : (cs.all fun d => !(d.must && !isIn P d && d.bef c)) = true := by
          rw [List.all_eq_true]
          intro d hd
          obtain ⟨i, hi, he⟩ := List.mem_iff_getElem.1 hd
          have e1 : cs[i]? = some d := by rw [List.getElem?_eq_getElem hi, he]
          rw [S.must_of e1, hat i d e1, S.bef_of e1 hc]
          by_cases hij : i < j <;> by_cases hd0 : d.code = 0 <;> simp [hij, hd0]
        rw [this]; simp [h0]
      rw [firstOf_only hc (fun i d hij hd => ?_)]
      · unfold goL
        rw [hnx, S.told_of hc]
        have hat' : atSeq cs (j + 1) (place P c) := by
          intro i d hd
          unfold isIn
          rw [testBit_place, S.num i d hd, S.num j c hc, Int.toNat_natCast, Int.toNat_natCast]
          have := hat i d hd
          unfold isIn at this
          rw [S.num i d hd, Int.toNat_natCast] at this
          rw [this]
          by_cases hij : i = j
          · subst hij
            rw [hc] at hd; injection hd with hd; subst hd
            simp [h0]
          · by_cases h1 : i < j
            · have h2 : i < j + 1 := by omega
              have h3 : ¬ j = i := fun e => hij e.symm
              simp [h1, h2, h3]
            · have h2 : ¬ i < j + 1 := by omega
              have h3 : ¬ j = i := fun e => hij e.symm
              simp [h1, h2, h3]
        rw [ih (j + 1) (place P c) (spDo sh items c.op) (by omega) (by omega) hat']
        cases c.told (spTell items c.op) <;> rfl
      · unfold goL
        have : nextL sh cs P d = false := by
          cases hh : nextL sh cs P d
          · rfl
          · have h1 := S.next_first hc hd hh h0 hinc
            have hind : isIn P d = false := by
              unfold nextL at hh
              cases hx : isIn P d
              · rfl
              · rw [hx] at hh; simp at hh
            have hmd : d.mayL sh = true := by
              unfold nextL at hh
              exact (Bool.and_eq_true_iff.1 (Bool.and_eq_true_iff.1 hh).1).2
            rw [S.mayL_of hd] at hmd
            rw [hat i d hd, hmd] at hind
            have : i < j := by omega
            simp [this] at hind
        rw [this]; rfl
    · rw [if_neg h0]
      refine ih (j + 1) P items (by omega) (by omega) ?_
      intro i d hd
      rw [hat i d hd]
      by_cases hij : i = j
      · subst hij
        rw [hc] at hd; injection hd with hd; subst hd
        simp [h0]
      · by_cases h1 : i < j
        · have h2 : i < j + 1 := by omega
          simp [h1, h2]
        · have h2 : ¬ i < j + 1 := by omega
          simp [h1, h2]
theorem Seq.find0 (S : Seq sh cs) : findL sh cs 0 [] = goSeq sh cs [] := by
  have := S.find cs.length 0 0 [] rfl (Nat.zero_le _) (fun i c _ => by unfold isIn; simp)
  rw [List.drop_zero] at this
  exact this
end
end Go.Proofs.YtboommppikfgnaaDoor
