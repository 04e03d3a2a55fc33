/- Plain search for an order of a history's calls: the first call that may stand next, and so on.
   Conditions: none. -/
import Derived.Test.YtboommppikfgnaaDoorHRef
import Derived.Test.YtboommppikfgnaaDoorSpPlain
namespace Go.Proofs.YtboommppikfgnaaDoor
open Go Go.RowKit

/-- ends ahead of the other's beginning -/
def HC.bef (d c : HC) : Bool := !(decide (d.ended < 0)) && decide (d.ended < c.began)
def HC.must (c : HC) : Bool := !(decide (c.ended < 0)) && (c.code == 0)
def HC.op (c : HC) : Opn := ⟨c.kind, c.key⟩
def HC.mayL (sh : Int) (c : HC) : Bool := (decide (c.ended < 0) || (c.code == 0)) && may sh c.op
def HC.told (c : HC) (r : Rsl) : Bool := decide (c.ended < 0) || ((r.code == c.code) && (r.ok == c.ok) && (r.val == c.val))
/-- is number i placed? -/
def isIn (P : Nat) (c : HC) : Bool := P.testBit c.id.toNat
def place (P : Nat) (c : HC) : Nat := P ||| 1 <<< c.id.toNat
def nextL (sh : Int) (cs : List HC) (P : Nat) (c : HC) : Bool := !isIn P c && c.mayL sh && cs.all (fun d => !(d.must && !isIn P d && d.bef c))
def stepL (sh : Int) (items : List Int) (c : HC) : Bool := may sh c.op && c.told (spTell items c.op)
def wholeL (cs : List HC) (P : Nat) : Bool := cs.all (fun c => !(c.must && !isIn P c))
def left (n P : Nat) : Nat := ((List.range n).filter fun i => !P.testBit i).length

def firstOf (g : HC → Option (List Int)) : List HC → Option (List Int)
  | [] => none
  | c :: l => match g c with
    | some r => some r
    | none => firstOf g l
theorem firstOf_congr {g g' : HC → Option (List Int)} : ∀ {l : List HC}, (∀ c ∈ l, g c = g' c) → firstOf g l = firstOf g' l
  | [], _ => rfl
  | c :: l, h => by
    simp only [firstOf]
    rw [h c (List.mem_cons_self ..), firstOf_congr (fun c hc => h c (List.mem_cons_of_mem _ hc))]
theorem firstOf_none {g : HC → Option (List Int)} : ∀ {l : List HC}, (∀ c ∈ l, g c = none) → firstOf g l = none
  | [], _ => rfl
  | c :: l, h => by
    simp only [firstOf]
    rw [h c (List.mem_cons_self ..)]
    exact firstOf_none (fun c hc => h c (List.mem_cons_of_mem _ hc))
theorem firstOf_app (g : HC → Option (List Int)) : ∀ (l m : List HC), firstOf g (l ++ m) = match firstOf g l with
    | some r => some r
    | none => firstOf g m
  | [], m => rfl
  | c :: l, m => by
    simp only [List.cons_append, firstOf]
    cases g c with
    | some r => rfl
    | none => exact firstOf_app g l m
theorem firstOf_some {g : HC → Option (List Int)} : ∀ {l : List HC} {r : List Int}, firstOf g l = some r → ∃ c ∈ l, g c = some r
  | [], _, h => by cases h
  | c :: l, r, h => by
    simp only [firstOf] at h
    cases hg : g c with
    | some r' => rw [hg] at h; simp only at h; exact ⟨c, List.mem_cons_self .., by rw [hg]; exact h⟩
    | none =>
      rw [hg] at h
      obtain ⟨d, hd, h'⟩ := firstOf_some h
      exact ⟨d, List.mem_cons_of_mem _ hd, h'⟩
theorem firstOf_isSome {g : HC → Option (List Int)} : ∀ {l : List HC} {c : HC}, c ∈ l → (g c).isSome = true → (firstOf g l).isSome = true
  | [], _, h, _ => by cases h
  | d :: l, c, h, hg => by
    simp only [firstOf]
    cases hd : g d with
    | some r => rfl
    | none =>
      rcases List.mem_cons.1 h with rfl | h
      · rw [hd] at hg; cases hg
      · exact firstOf_isSome h hg

def findN (sh : Int) (cs : List HC) : Nat → Nat → List Int → Option (List Int)
  | 0, P, _ => if wholeL cs P then some [] else none
  | f + 1, P, items => if wholeL cs P then some [] else
    firstOf (fun c => if nextL sh cs P c && stepL sh items c then (findN sh cs f (place P c) (spDo sh items c.op)).map (c.id :: ·) else none) cs
def findL (sh : Int) (cs : List HC) (P : Nat) (items : List Int) : Option (List Int) := findN sh cs (left cs.length P) P items

/-- each call's number is its place -/
def Numbered (cs : List HC) : Prop := ∀ (i : Nat) (c : HC), cs[i]? = some c → c.id = i

theorem testBit_place (P : Nat) (c : HC) (j : Nat) : (place P c).testBit j = (P.testBit j || decide (c.id.toNat = j)) := by
  unfold place
  rw [Nat.testBit_or, Nat.shiftLeft_eq, Nat.one_mul, Nat.testBit_two_pow]
theorem left_place {n P : Nat} {c : HC} (hn : c.id.toNat < n) (hp : isIn P c = false) : left n (place P c) + 1 = left n P := by
  unfold left
  have h1 : ((List.range n).filter fun i => !(place P c).testBit i) = ((List.range n).filter fun i => !P.testBit i).erase c.id.toNat := by
    rw [List.Nodup.erase_eq_filter (List.Pairwise.filter _ List.nodup_range), List.filter_filter]
    refine List.filter_congr fun i _ => ?_
    rw [testBit_place]
    by_cases h : c.id.toNat = i
    · simp [h]
    · have h' : (i != c.id.toNat) = true := by simp; omega
      simp [h, h']
  have h2 : c.id.toNat ∈ (List.range n).filter fun i => !P.testBit i := by
    rw [List.mem_filter]
    refine ⟨List.mem_range.2 hn, ?_⟩
    unfold isIn at hp
    rw [hp]; rfl
  rw [h1, List.length_erase_of_mem h2]
  have := List.length_pos_of_mem h2
  omega
theorem left_zero {n P : Nat} (h : left n P = 0) {i : Nat} (hi : i < n) : P.testBit i = true := by
  unfold left at h
  have := List.filter_eq_nil_iff.1 (List.eq_nil_of_length_eq_zero h) i (List.mem_range.2 hi)
  simpa using this

theorem findL_eq (sh : Int) (cs : List HC) (hid : Numbered cs) (P : Nat) (items : List Int) :
    findL sh cs P items = if wholeL cs P then some [] else firstOf (fun c => if nextL sh cs P c && stepL sh items c then (findL sh cs (place P c) (spDo sh items c.op)).map (c.id :: ·) else none) cs := by
  have hlt : ∀ c ∈ cs, c.id.toNat < cs.length := fun c hc => by
    obtain ⟨i, hi, he⟩ := List.mem_iff_getElem.1 hc
    have := hid i c (by rw [List.getElem?_eq_getElem hi, he])
    omega
  unfold findL
  cases hl : left cs.length P with
  | zero =>
    simp only [findN]
    split
    · rfl
    · symm
      refine firstOf_none fun c hc => ?_
      have h1 : nextL sh cs P c = false := by
        have := left_zero hl (hlt c hc)
        unfold nextL isIn
        rw [this]; rfl
      rw [h1]; rfl
  | succ f =>
    simp only [findN]
    split
    · rfl
    · refine firstOf_congr fun c hc => ?_
      split
      · rename_i h
        have hn : nextL sh cs P c = true := (Bool.and_eq_true_iff.1 h).1
        have hp : isIn P c = false := by
          unfold nextL at hn
          cases hh : isIn P c
          · rfl
          · rw [hh] at hn; simp at hn
        have := left_place (n := cs.length) (hlt c hc) hp
        rw [show left cs.length (place P c) = f by omega]
      · rfl
/-- how many calls may stand next, at most -/
def Branch (sh : Int) (cs : List HC) (β : Nat) : Prop := ∀ P, (cs.filter (nextL sh cs P)).length ≤ β
/-- how often the search is begun, at most -/
def cost (β : Nat) : Nat → Nat
  | 0 => 1
  | u + 1 => 1 + β * cost β u
theorem cost_pos (β : Nat) (u : Nat) : 1 ≤ cost β u := by cases u <;> simp [cost]
end Go.Proofs.YtboommppikfgnaaDoor
