/- Plain model of a meaning (layer 7): items, what an operation does, and the document's answer.
   Conditions: none. -/
import Derived.Test.YtboommppikfgnaaDoorMem
namespace Go.Proofs.YtboommppikfgnaaDoor
open Go Go.RowKit

theorem snocRec {α : Type} {P : List α → Prop} (nil : P []) (snoc : ∀ l o, P l → P (l ++ [o])) (l : List α) : P l := by
  have h : ∀ m : List α, P m.reverse := by
    intro m
    induction m with
    | nil => exact nil
    | cons a m ih => rw [List.reverse_cons]; exact snoc _ _ ih
  have := h l.reverse
  rwa [List.reverse_reverse] at this

/-- an operation: kind and key -/
structure Opn where
  kind : Int
  key : Int
def Opn.cells (o : Opn) : List Value := [.int .i64 o.kind, .int .i64 o.key]
theorem Opn.cells_len (o : Opn) : o.cells.length = 2 := rfl
theorem Opn.cells_one (o : Opn) : ∀ u ∈ o.cells, u.oneCell' = true := by
  intro u hu
  simp only [Opn.cells, List.mem_cons, List.not_mem_nil, or_false] at hu
  rcases hu with rfl | rfl <;> rfl
/-- a result: code, ok, val -/
structure Rsl where
  code : Int
  ok : Bool
  val : Int
def Rsl.cells (r : Rsl) : List Value := [.int .i64 r.code, .bool r.ok, .int .i64 r.val]
def Rsl.none_ : Rsl := ⟨0, false, 0⟩
def Rsl.yes (b : Bool) : Rsl := ⟨0, b, 0⟩

def mayP (sh kind key : Int) : Prop :=
  0 ≤ key ∧ key ≤ 999 ∧ (((sh = 1 ∨ sh = 2) ∧ 1 ≤ kind ∧ kind ≤ 3) ∨ ((sh = 3 ∨ sh = 4) ∧ (kind = 4 ∨ (kind = 5 ∧ key = 0))))
instance mayP.dec (sh kind key : Int) : Decidable (mayP sh kind key) := by unfold mayP; infer_instance
def may (sh : Int) (o : Opn) : Bool := decide (mayP sh o.kind o.key)

/-- put at a place -/
def insAt (l : List Int) (i : Nat) (x : Int) : List Int := l.take i ++ x :: l.drop i
def below (l : List Int) (x : Int) : Nat := l.countP (· < x)
/-- what an operation that is one of the shape does -/
def spDo (sh : Int) (l : List Int) (o : Opn) : List Int :=
  if o.kind = 1 then (if l.contains o.key then l else insAt l (below l o.key) o.key)
  else if o.kind = 2 then (if l.contains o.key then l.eraseIdx (below l o.key) else l)
  else if o.kind = 3 then l
  else if o.kind = 4 then (if sh = 3 then l ++ [o.key] else o.key :: l)
  else l.tail
def spTell (l : List Int) (o : Opn) : Rsl :=
  if o.kind = 1 then .yes (!l.contains o.key)
  else if o.kind = 2 then .yes (l.contains o.key)
  else if o.kind = 3 then .yes (l.contains o.key)
  else if o.kind = 4 then .yes true
  else match l with
    | [] => .none_
    | x :: _ => ⟨0, true, x⟩
/-- any operation -/
def spStep (sh : Int) (l : List Int) (o : Opn) : List Int := if may sh o then spDo sh l o else l
def spErr (sh : Int) (o : Opn) : Int := if may sh o then 0 else 1
def spRes (sh : Int) (l : List Int) (o : Opn) : Rsl := if may sh o then spTell l o else .none_

/-- the items behind operations that are of the shape -/
def itemsOf (sh : Int) (did : List Opn) : List Int := did.foldl (spDo sh) []
theorem itemsOf_snoc (sh : Int) (did : List Opn) (o : Opn) : itemsOf sh (did ++ [o]) = spDo sh (itemsOf sh did) o := by simp [itemsOf, List.foldl_append]

theorem spDo_len (sh : Int) (l : List Int) (o : Opn) : (spDo sh l o).length ≤ l.length + 1 := by
  unfold spDo insAt
  split
  · split
    · omega
    · simp; omega
  · split
    · split
      · rw [List.length_eraseIdx]; split <;> omega
      · omega
    · split
      · omega
      · split
        · split <;> simp
        · simp; omega
theorem itemsOf_len (sh : Int) : ∀ did : List Opn, (itemsOf sh did).length ≤ did.length := by
  intro did
  induction did using snocRec with
  | nil => simp [itemsOf]
  | snoc l o ih => rw [itemsOf_snoc]; have := spDo_len sh (itemsOf sh l) o; simp; omega

/- the document's answer -/
def inS (did : List Opn) (k : Int) : Bool := did.foldl (fun b o => if o.key = k ∧ o.kind = 1 then true else if o.key = k ∧ o.kind = 2 then false else b) false
theorem inS_snoc (did : List Opn) (o : Opn) (k : Int) : inS (did ++ [o]) k = if o.key = k ∧ o.kind = 1 then true else if o.key = k ∧ o.kind = 2 then false else inS did k := by simp [inS, List.foldl_append]
def manyS (did : List Opn) : Nat := did.foldl (fun n o => if o.kind = 4 then n + 1 else n - 1) 0
theorem manyS_snoc (did : List Opn) (o : Opn) : manyS (did ++ [o]) = if o.kind = 4 then manyS did + 1 else manyS did - 1 := by simp [manyS, List.foldl_append]
def putsS (did : List Opn) : List Int := (did.filter fun o => decide (o.kind = 4)).map Opn.key
theorem putsS_snoc (did : List Opn) (o : Opn) : putsS (did ++ [o]) = if o.kind = 4 then putsS did ++ [o.key] else putsS did := by
  simp only [putsS, List.filter_append, List.map_append]
  by_cases h : o.kind = 4 <;> simp [h]
theorem manyS_le (did : List Opn) : manyS did ≤ (putsS did).length := by
  induction did using snocRec with
  | nil => simp [manyS, putsS]
  | snoc l o ih =>
    rw [manyS_snoc, putsS_snoc]
    by_cases h : o.kind = 4
    · simp [h]; exact ih
    · simp [h]; omega
def lineS (did : List Opn) : List Int := (putsS did).drop ((putsS did).length - manyS did)
/-- keys from 0 to n -/
def upTo (n : Nat) : List Int := (List.range n).map fun k : Nat => (k : Int)
def setS (did : List Opn) : List Int := (upTo 1000).filter (inS did)
/-- the stack's items -/
def pileS (did : List Opn) : List Int := did.foldl (fun s o => if o.kind = 4 then o.key :: s else s.tail) []
theorem pileS_snoc (did : List Opn) (o : Opn) : pileS (did ++ [o]) = if o.kind = 4 then o.key :: pileS did else (pileS did).tail := by simp [pileS, List.foldl_append]
theorem pileS_len (did : List Opn) : (pileS did).length = manyS did := by
  induction did using snocRec with
  | nil => rfl
  | snoc l o ih =>
    rw [pileS_snoc, manyS_snoc]
    by_cases h : o.kind = 4
    · simp [h, ih]
    · simp [h, ih]

def allMay (sh : Int) (did : List Opn) : Prop := ∀ o ∈ did, mayP sh o.kind o.key
theorem allMay_snoc {sh : Int} {did : List Opn} {o : Opn} (h : allMay sh did) (ho : mayP sh o.kind o.key) : allMay sh (did ++ [o]) := by
  intro x hx
  simp only [List.mem_append, List.mem_singleton] at hx
  rcases hx with hx | rfl
  · exact h x hx
  · exact ho
theorem allMay_init {sh : Int} {did : List Opn} {o : Opn} (h : allMay sh (did ++ [o])) : allMay sh did ∧ mayP sh o.kind o.key :=
  ⟨fun x hx => h x (by simp [hx]), h o (by simp)⟩

theorem items_queue (did : List Opn) (h : allMay 3 did) : itemsOf 3 did = lineS did := by
  induction did using snocRec with
  | nil => rfl
  | snoc l o ih =>
    obtain ⟨h1, h2⟩ := allMay_init h
    have hm := manyS_le l
    rw [itemsOf_snoc, ih h1, lineS, lineS, putsS_snoc, manyS_snoc]
    have hk : o.kind = 4 ∨ o.kind = 5 := by unfold mayP at h2; omega
    rcases hk with hk | hk
    · simp only [spDo, hk, if_true]
      rw [if_neg (by omega), if_neg (by omega), if_neg (by omega)]
      rw [List.length_append, List.length_singleton, show (putsS l).length + 1 - (manyS l + 1) = (putsS l).length - manyS l by omega, List.drop_append_of_le_length (by omega)]
    · simp only [spDo, hk]
      simp only [if_neg (show ¬ (5 : Int) = 1 by omega), if_neg (show ¬ (5 : Int) = 2 by omega), if_neg (show ¬ (5 : Int) = 3 by omega), if_neg (show ¬ (5 : Int) = 4 by omega)]
      rw [List.tail_drop]
      rcases Nat.eq_zero_or_pos (manyS l) with h0 | h0
      · rw [h0]; simp
      · congr 1; omega
theorem items_stack (did : List Opn) (h : allMay 4 did) : itemsOf 4 did = pileS did := by
  induction did using snocRec with
  | nil => rfl
  | snoc l o ih =>
    obtain ⟨h1, h2⟩ := allMay_init h
    rw [itemsOf_snoc, ih h1, pileS_snoc]
    have hk : o.kind = 4 ∨ o.kind = 5 := by unfold mayP at h2; omega
    rcases hk with hk | hk
    · simp only [spDo, hk, if_true]
      rw [if_neg (by omega), if_neg (by omega), if_neg (by omega), if_neg (by omega)]
    · simp only [spDo, hk]
      simp only [if_neg (show ¬ (5 : Int) = 1 by omega), if_neg (show ¬ (5 : Int) = 2 by omega), if_neg (show ¬ (5 : Int) = 3 by omega), if_neg (show ¬ (5 : Int) = 4 by omega)]

/-- a set's items, parted at a key -/
theorem upTo_split (k : Nat) (n : Nat) (hk : k < n) : upTo n = upTo k ++ (k : Int) :: (List.range (n - k - 1)).map fun j => ((k + 1 + j : Nat) : Int) := by
  have h1 : List.range n = List.range (k + (n - k)) := by rw [show k + (n - k) = n by omega]
  unfold upTo
  rw [h1, List.range_add, List.map_append]
  congr 1
  rw [show n - k = (n - k - 1) + 1 by omega, List.range_succ_eq_map]
  simp [Function.comp_def]
  intro a _
  omega
theorem set_split (f : Int → Bool) (k : Nat) (hk : k < 1000) : ∃ L R : List Int, (∀ g : Int → Bool, (∀ j : Int, j ≠ k → g j = f j) → (upTo 1000).filter g = L ++ (if g k then [(k : Int)] else []) ++ R) ∧ (∀ x ∈ L, x < k) ∧ (∀ x ∈ R, (k : Int) < x) := by
  refine ⟨(upTo k).filter f, ((List.range (1000 - k - 1)).map fun j => ((k + 1 + j : Nat) : Int)).filter f, fun g hg => ?_, ?_, ?_⟩
  · rw [upTo_split k 1000 hk, List.filter_append, List.filter_cons]
    have hA : (upTo k).filter g = (upTo k).filter f := by
      refine List.filter_congr fun x hx => hg x ?_
      simp [upTo] at hx; obtain ⟨a, ha, rfl⟩ := hx; omega
    have hB : ((List.range (1000 - k - 1)).map fun j => ((k + 1 + j : Nat) : Int)).filter g = ((List.range (1000 - k - 1)).map fun j => ((k + 1 + j : Nat) : Int)).filter f := by
      refine List.filter_congr fun x hx => hg x ?_
      simp only [List.mem_map] at hx; obtain ⟨a, ha, rfl⟩ := hx; omega
    rw [hA, hB]
    cases g k <;> simp
  · intro x hx
    have := (List.mem_filter.1 hx).1
    simp [upTo] at this; obtain ⟨a, ha, rfl⟩ := this; omega
  · intro x hx
    have := (List.mem_filter.1 hx).1
    simp only [List.mem_map] at this; obtain ⟨a, ha, rfl⟩ := this; omega
theorem below_split {L R M : List Int} {k : Int} (hL : ∀ x ∈ L, x < k) (hR : ∀ x ∈ R, k < x) (hM : ∀ x ∈ M, x = k) : below (L ++ M ++ R) k = L.length := by
  unfold below
  rw [List.countP_append, List.countP_append, List.countP_eq_length.2 (fun x hx => by simpa using hL x hx), List.countP_eq_zero.2 (fun x hx => by have := hM x hx; simp; omega), List.countP_eq_zero.2 (fun x hx => by have := hR x hx; simp; omega)]
  simp
theorem contains_split {L R : List Int} {k : Int} (hL : ∀ x ∈ L, x < k) (hR : ∀ x ∈ R, k < x) (b : Bool) : (L ++ (if b then [k] else []) ++ R).contains k = b := by
  have h1 : k ∉ L := fun h => by have := hL k h; omega
  have h2 : k ∉ R := fun h => by have := hR k h; omega
  cases b <;> simp [h1, h2]
theorem set_contains (did : List Opn) (k : Int) (h0 : 0 ≤ k) (h1 : k ≤ 999) : (setS did).contains k = inS did k := by
  obtain ⟨n, rfl⟩ := Int.eq_ofNat_of_zero_le h0
  obtain ⟨L, R, h, hL, hR⟩ := set_split (inS did) n (by omega)
  rw [setS, h (inS did) (fun _ _ => rfl)]
  exact contains_split hL hR _
theorem items_set (sh : Int) (hs : sh = 1 ∨ sh = 2) (did : List Opn) (h : allMay sh did) : itemsOf sh did = setS did := by
  induction did using snocRec with
  | nil =>
    have : setS [] = [] := by
      unfold setS
      exact List.filter_eq_nil_iff.2 (fun _ _ => by simp [inS])
    rw [this]; rfl
  | snoc l o ih =>
    obtain ⟨h1, h2⟩ := allMay_init h
    have hk : 0 ≤ o.key ∧ o.key ≤ 999 ∧ (o.kind = 1 ∨ o.kind = 2 ∨ o.kind = 3) := by unfold mayP at h2; omega
    obtain ⟨hk0, hk1, hkk⟩ := hk
    obtain ⟨n, hn⟩ := Int.eq_ofNat_of_zero_le hk0
    obtain ⟨L, R, hs, hL, hR⟩ := set_split (inS l) n (by omega)
    have e1 : setS l = L ++ (if inS l n then [(n : Int)] else []) ++ R := hs (inS l) (fun _ _ => rfl)
    have e2 : setS (l ++ [o]) = L ++ (if inS (l ++ [o]) n then [(n : Int)] else []) ++ R := hs (inS (l ++ [o])) (fun j hj => by
      rw [inS_snoc, if_neg (fun h => hj (by rw [← h.1, hn])), if_neg (fun h => hj (by rw [← h.1, hn]))])
    have hc : (setS l).contains (n : Int) = inS l n := by rw [e1]; exact contains_split hL hR _
    have hb : below (setS l) n = L.length := by rw [e1]; exact below_split hL hR (fun x hx => by cases hh : inS l n <;> simp [hh] at hx; exact hx)
    rw [itemsOf_snoc, ih h1, e2, inS_snoc, hn]
    unfold spDo
    rw [hn, hc, hb]
    rcases hkk with hk | hk | hk
    · rw [hk]
      cases hi : inS l n
      · rw [hi] at e1
        simp only [e1, if_true, Bool.false_eq_true, if_false, and_self, insAt]
        simp
      · rw [hi] at e1
        simp [e1]
    · rw [hk]
      cases hi : inS l n
      · rw [hi] at e1
        simp [e1]
      · rw [hi] at e1
        simp only [e1, if_true]
        rw [if_neg (by omega)]
        simp [List.eraseIdx_append_of_length_le]
    · rw [hk]
      simp [e1]
/-- the document's items -/
def refItems (sh : Int) (did : List Opn) : List Int := if sh = 3 then lineS did else if sh = 4 then pileS did else setS did
theorem items_ref (sh : Int) (did : List Opn) (hs : 1 ≤ sh ∧ sh ≤ 4) (h : allMay sh did) : itemsOf sh did = refItems sh did := by
  unfold refItems
  by_cases h3 : sh = 3
  · subst h3; exact items_queue did h
  · by_cases h4 : sh = 4
    · subst h4; exact items_stack did h
    · rw [if_neg h3, if_neg h4]; exact items_set sh (by omega) did h
/-- what the document says that an operation tells -/
def refRes (sh : Int) (did : List Opn) (o : Opn) : Rsl :=
  if o.kind = 1 then .yes (!inS did o.key)
  else if o.kind = 2 ∨ o.kind = 3 then .yes (inS did o.key)
  else if o.kind = 4 then .yes true
  else match refItems sh did with
    | [] => .none_
    | x :: _ => ⟨0, true, x⟩
theorem tell_ref (sh : Int) (did : List Opn) (o : Opn) (hs : 1 ≤ sh ∧ sh ≤ 4) (h : allMay sh did) (ho : mayP sh o.kind o.key) : spTell (itemsOf sh did) o = refRes sh did o := by
  have hk : 0 ≤ o.key ∧ o.key ≤ 999 ∧ (((sh = 1 ∨ sh = 2) ∧ (o.kind = 1 ∨ o.kind = 2 ∨ o.kind = 3)) ∨ ((sh = 3 ∨ sh = 4) ∧ (o.kind = 4 ∨ o.kind = 5))) := by unfold mayP at ho; omega
  obtain ⟨k0, k1, hk⟩ := hk
  rcases hk with ⟨hs', hk⟩ | ⟨hs', hk⟩
  · rw [items_set sh hs' did h]
    unfold spTell refRes
    rw [set_contains did o.key k0 k1]
    rcases hk with hk | hk | hk <;> simp [hk]
  · rw [items_ref sh did hs h]
    unfold spTell refRes
    rcases hk with hk | hk <;> simp [hk]

/-- rising -/
def rises (l : List Int) : Prop := l.Pairwise (· < ·)
theorem set_rises (did : List Opn) : rises (setS did) := by
  unfold setS rises upTo
  refine List.Pairwise.filter _ ?_
  rw [List.pairwise_map]
  exact List.pairwise_lt_range.imp (fun h => by omega)
end Go.Proofs.YtboommppikfgnaaDoor
