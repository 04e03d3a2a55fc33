/- Plain law: the document's least order is what the search finds.
   Conditions: none. -/
import Derived.Test.YtboommppikfgnaaDoorLinFits
import Derived.Test.YtboommppikfgnaaDoorLinSearch
namespace Go.Proofs.YtboommppikfgnaaDoor
open Go Go.RowKit

/-- the document's least order that goes on from one -/
def leastN (sh : Int) (cs : List RC) : Nat → List Int → Option (List Int)
  | 0, ord => if wholeTo cs ord cs.length then some ord else none
  | f + 1, ord => if wholeTo cs ord cs.length then some ord else
    (List.range cs.length).findSome? fun (i : Nat) => if fitsR sh cs ord (i : Int) then leastN sh cs f (ord ++ [(i : Int)]) else none
theorem findSome_none {A B : Type} {f : A → Option B} {l : List A} (h : ∀ x ∈ l, f x = none) : l.findSome? f = none := by
  rw [List.findSome?_eq_none_iff]; exact h
theorem findSome_congr {A B : Type} {f g : A → Option B} : ∀ {l : List A}, (∀ x ∈ l, f x = g x) → l.findSome? f = l.findSome? g
  | [], _ => rfl
  | x :: l, h => by
    rw [List.findSome?_cons, List.findSome?_cons, h x (List.mem_cons_self ..), findSome_congr (fun y hy => h y (List.mem_cons_of_mem _ hy))]
theorem firstOf_some? (g : HC → Option (List Int)) : ∀ l : List HC, firstOf g l = l.findSome? g
  | [] => rfl
  | c :: l => by
    rw [List.findSome?_cons]
    simp only [firstOf]
    cases g c with
    | some r => rfl
    | none => exact firstOf_some? g l
theorem range_some? {A B : Type} (g : A → Option B) : ∀ (l : List A) (F : Nat → Option B), (∀ (i : Nat) (x : A), l[i]? = some x → F i = g x) → (List.range l.length).findSome? F = l.findSome? g := by
  intro l
  induction l with
  | nil => intro F _; rfl
  | cons x l ih =>
    intro F h
    rw [List.length_cons, List.range_succ_eq_map, List.findSome?_cons, List.findSome?_cons, h 0 x rfl, List.findSome?_map, ih (F ∘ Nat.succ) (fun i y hy => h (i + 1) y (by simpa using hy))]

/-- what an order and what is placed have in common -/
structure Along (sh : Int) (hs : List HC) (ord : List Int) (P : Nat) (did : List Opn) : Prop where
  valid : ValidR (hs.map HC.rc) ord
  bits : ∀ (i : Nat), i < hs.length → P.testBit i = ord.contains (i : Int)
  ops : opsR (hs.map HC.rc) ord = did
  may : allMay sh did
  /-- no call that must stand and isn't placed is ahead of one that is -/
  free : ∀ (i j : Nat) (c d : HC), hs[i]? = some c → hs[j]? = some d → c.must = true → P.testBit i = false → P.testBit j = true → c.bef d = false
theorem must_rc (c : HC) : c.rc.mustR = c.must := by
  unfold RC.mustR HC.must HC.rc
  by_cases h : c.ended < 0
  · have : ¬ 0 ≤ c.ended := by omega
    simp [h, this]
  · have : 0 ≤ c.ended := by omega
    simp only [h, this, decide_true, decide_false, Bool.not_false, Bool.true_and]
    by_cases h2 : c.code = 0 <;> simp [h2]
theorem rAt_rc {hs : List HC} {i : Nat} {c : HC} (h : hs[i]? = some c) : rAt (hs.map HC.rc) (i : Int) = some c.rc := by
  unfold rAt
  rw [if_pos (by omega), Int.toNat_natCast, List.getElem?_map, h]; rfl
theorem whole_rc {sh : Int} {hs : List HC} (hid : Numbered hs) {ord : List Int} {P : Nat} {did : List Opn} (A : Along sh hs ord P did) : wholeTo (hs.map HC.rc) ord (hs.map HC.rc).length = wholeL hs P := by
  have key : ∀ b : Bool, wholeL hs P = b ↔ wholeL hs P = b := fun _ => Iff.rfl
  apply Bool.eq_iff_iff.2
  unfold wholeTo wholeL
  rw [List.all_eq_true, List.all_eq_true]
  constructor
  · intro h c hc
    obtain ⟨i, hi, he⟩ := List.mem_iff_getElem.1 hc
    have e1 : hs[i]? = some c := by rw [List.getElem?_eq_getElem hi, he]
    have := h i (List.mem_range.2 (by rw [List.length_map]; exact hi))
    rw [List.getElem?_map, e1] at this
    simp only [Option.map_some] at this
    rw [must_rc, ← A.bits i hi] at this
    unfold isIn
    rw [hid i c e1, Int.toNat_natCast]
    exact this
  · intro h i hi
    rw [List.mem_range, List.length_map] at hi
    have e1 : hs[i]? = some hs[i] := List.getElem?_eq_getElem hi
    have := h hs[i] (List.getElem_mem hi)
    rw [List.getElem?_map, e1]
    simp only [Option.map_some]
    rw [must_rc, ← A.bits i hi]
    unfold isIn at this
    rw [hid i _ e1, Int.toNat_natCast] at this
    exact this
/-- an order that lacks a call that must stand ahead of one that it has leads nowhere -/
theorem dead_none (sh : Int) (hs : List HC) : ∀ (f : Nat) (ord : List Int) (i j : Nat) (c d : HC), hs[i]? = some c → hs[j]? = some d → c.must = true → (i : Int) ∉ ord → (j : Int) ∈ ord → c.bef d = true → leastN sh (hs.map HC.rc) f ord = none := by
  intro f
  induction f with
  | zero =>
    intro ord i j c d hc hd hm hi hj hb
    have hw : wholeTo (hs.map HC.rc) ord (hs.map HC.rc).length = false := by
      cases h : wholeTo (hs.map HC.rc) ord (hs.map HC.rc).length
      · rfl
      · unfold wholeTo at h
        have := List.all_eq_true.1 h i (List.mem_range.2 (by rw [List.length_map]; exact (List.getElem?_eq_some_iff.1 hc).1))
        rw [List.getElem?_map, hc] at this
        simp only [Option.map_some] at this
        rw [must_rc, hm] at this
        simp at this
        exact absurd this hi
    simp only [leastN, hw]; rfl
  | succ f ih =>
    intro ord i j c d hc hd hm hi hj hb
    have hw : wholeTo (hs.map HC.rc) ord (hs.map HC.rc).length = false := by
      cases h : wholeTo (hs.map HC.rc) ord (hs.map HC.rc).length
      · rfl
      · unfold wholeTo at h
        have := List.all_eq_true.1 h i (List.mem_range.2 (by rw [List.length_map]; exact (List.getElem?_eq_some_iff.1 hc).1))
        rw [List.getElem?_map, hc] at this
        simp only [Option.map_some] at this
        rw [must_rc, hm] at this
        simp at this
        exact absurd this hi
    simp only [leastN, hw, Bool.false_eq_true, if_false]
    refine findSome_none fun k _ => ?_
    by_cases hki : k = i
    · subst hki
      have hf : fitsR sh (hs.map HC.rc) ord (k : Int) = false := by
        unfold fitsR
        rw [rAt_rc hc]
        simp only
        have hn : noneAhead (hs.map HC.rc) c.rc ord = false := by
          cases h : noneAhead (hs.map HC.rc) c.rc ord
          · rfl
          · unfold noneAhead at h
            have := List.all_eq_true.1 h (j : Int) hj
            rw [rAt_rc hd] at this
            simp only at this
            have hb' : spanB c.rc.ended d.rc.began = true := hb
            rw [hb'] at this
            cases this
        rw [hn]; simp
      rw [hf]; rfl
    · split
      · refine ih (ord ++ [(k : Int)]) i j c d hc hd hm ?_ (List.mem_append_left _ hj) hb
        intro h
        rcases List.mem_append.1 h with h | h
        · exact hi h
        · have : (i : Int) = k := by simpa using h
          omega
      · rfl
theorem map_some? {A B C : Type} (h : B → C) (f : A → Option B) : ∀ l : List A, (l.findSome? f).map h = l.findSome? fun x => (f x).map h
  | [] => rfl
  | x :: l => by
    rw [List.findSome?_cons, List.findSome?_cons]
    cases f x with
    | some y => rfl
    | none => exact map_some? h f l
theorem told_ref {sh : Int} (hs : 1 ≤ sh ∧ sh ≤ 4) {did : List Opn} (hm : allMay sh did) (c : HC) (hmay : may sh c.op = true) : (decide (c.ended < 0) || resR c.rc (refRes sh did c.op)) = c.told (spTell (itemsOf sh did) c.op) := by
  rw [tell_ref sh did c.op hs hm (of_decide_eq_true hmay)]
  unfold resR HC.told
  have e1 : c.rc.code = c.code := rfl
  have e2 : c.rc.ok = c.ok := rfl
  have e3 : c.rc.val = c.val := rfl
  rw [e1, e2, e3, Bool.beq_comm (a := c.ok), BEq.comm (a := c.code), BEq.comm (a := c.val)]
theorem fits_eq {sh : Int} (_ : 1 ≤ sh ∧ sh ≤ 4) {hs : List HC} (hid : Numbered hs) {ord : List Int} {P : Nat} {did : List Opn} (A : Along sh hs ord P did) {i : Nat} {c : HC} (hc : hs[i]? = some c) :
    fitsR sh (hs.map HC.rc) ord (i : Int) = (!isIn P c && (may sh c.op && ((decide (c.ended < 0) || (c.code == 0)) && (noneAhead (hs.map HC.rc) c.rc ord && (decide (c.ended < 0) || resR c.rc (refRes sh did c.op)))))) := by
  have hi : i < hs.length := (List.getElem?_eq_some_iff.1 hc).1
  unfold fitsR
  rw [rAt_rc hc]
  simp only
  rw [← A.bits i hi, A.ops]
  have e1 : c.rc.op = c.op := rfl
  have e2 : c.rc.ended = c.ended := rfl
  have e3 : c.rc.code = c.code := rfl
  have e4 : isIn P c = P.testBit i := by unfold isIn; rw [hid i c hc, Int.toNat_natCast]
  rw [e1, e2, e3, e4]
  congr 2
  congr 1
  by_cases h : c.ended < 0
  · have : ¬ 0 ≤ c.ended := by omega
    simp [h, this]
  · have : 0 ≤ c.ended := by omega
    simp [h, this]
theorem none_ahead {sh : Int} {hs : List HC} {ord : List Int} {P : Nat} {did : List Opn} (A : Along sh hs ord P did) {i : Nat} {c : HC} (hc : hs[i]? = some c) (hp : P.testBit i = false) (hm : (decide (c.ended < 0) || (c.code == 0)) = true) : noneAhead (hs.map HC.rc) c.rc ord = true := by
  unfold noneAhead
  rw [List.all_eq_true]
  intro x hx
  obtain ⟨d, hd, hd2⟩ := rAt_valid (A.valid x hx)
  rw [hd]
  simp only
  obtain ⟨h0, hl⟩ := A.valid x hx
  rw [List.length_map] at hl
  have hj : x.toNat < hs.length := by omega
  have e1 : hs[x.toNat]? = some hs[x.toNat] := List.getElem?_eq_getElem hj
  rw [List.getElem?_map, e1] at hd2
  simp only [Option.map_some, Option.some.injEq] at hd2
  have hbit : P.testBit x.toNat = true := by
    rw [A.bits _ hj, show ((x.toNat : Nat) : Int) = x by omega]
    simpa using hx
  by_cases hpe : c.ended < 0
  · have : spanB c.rc.ended d.began = false := by
      unfold spanB
      have : ¬ 0 ≤ c.rc.ended := by show ¬ 0 ≤ c.ended; omega
      simp [this]
    rw [this]; rfl
  · have hmust : c.must = true := by
      unfold HC.must
      simp only [hpe, decide_false, Bool.false_or] at hm
      rw [hm, decide_eq_false hpe]; rfl
    have := A.free i x.toNat c _ hc e1 hmust hp hbit
    have hsp : spanB c.rc.ended d.began = c.bef hs[x.toNat] := by
      rw [← hd2]
      unfold spanB HC.bef HC.rc
      have h2 : 0 ≤ c.ended := by omega
      simp [hpe]
    rw [hsp, this]; rfl
theorem along_put {sh : Int} {hs : List HC} (hid : Numbered hs) {ord : List Int} {P : Nat} {did : List Opn} (A : Along sh hs ord P did) {i : Nat} {c : HC} (hc : hs[i]? = some c) (hn : nextL sh hs P c = true) (hm : may sh c.op = true) : Along sh hs (ord ++ [(i : Int)]) (place P c) (did ++ [c.op]) := by
  have hi : i < hs.length := (List.getElem?_eq_some_iff.1 hc).1
  have hcid : c.id.toNat = i := by rw [hid i c hc, Int.toNat_natCast]
  refine ⟨?_, fun j hj => ?_, ?_, ?_, ?_⟩
  · intro x hx
    rcases List.mem_append.1 hx with h | h
    · exact A.valid x h
    · obtain rfl : x = (i : Int) := by simpa using h
      rw [List.length_map]; omega
  · rw [testBit_place, A.bits j hj, hcid, List.contains_append]
    congr 1
    by_cases h : i = j
    · subst h; simp
    · have : ¬ (j : Int) = i := by omega
      simp [h, this]
  · unfold opsR
    rw [List.filterMap_append]
    have := A.ops
    unfold opsR at this
    rw [this]
    have e : rAt (hs.map HC.rc) (i : Int) = some c.rc := rAt_rc hc
    simp [e]; rfl
  · intro o ho
    rcases List.mem_append.1 ho with h | h
    · exact A.may o h
    · obtain rfl : o = c.op := by simpa using h
      exact of_decide_eq_true hm
  · intro i' j c' d hc' hd hmu hp hq
    rw [testBit_place] at hp hq
    rw [Bool.or_eq_false_iff] at hp
    rcases Bool.or_eq_true_iff.1 hq with h | h
    · exact A.free i' j c' d hc' hd hmu hp.1 h
    · have hji : j = i := by have := of_decide_eq_true h; omega
      subst hji
      obtain rfl : d = c := by rw [hd] at hc; exact Option.some.inj hc
      unfold nextL at hn
      have := List.all_eq_true.1 (Bool.and_eq_true_iff.1 hn).2 c' (List.mem_of_getElem? hc')
      rw [hmu] at this
      have e : isIn P c' = false := by unfold isIn; rw [hid i' c' hc', Int.toNat_natCast]; exact hp.1
      rw [e] at this
      simpa using this
theorem along_new (sh : Int) (hs : List HC) : Along sh hs [] 0 [] := ⟨fun _ h => (by cases h), fun _ _ => (by simp), rfl, fun _ h => (by cases h), fun _ j _ _ _ _ _ _ h => (by simp at h)⟩

theorem least_find {sh : Int} (hsh : 1 ≤ sh ∧ sh ≤ 4) {hs : List HC} (hid : Numbered hs) (hself : ∀ c ∈ hs, c.bef c = false) : ∀ (u : Nat) (ord : List Int) (P : Nat) (did : List Opn), Along sh hs ord P did → left hs.length P = u →
    leastN sh (hs.map HC.rc) u ord = (findL sh hs P (itemsOf sh did)).map (ord ++ ·) := by
  intro u
  induction u with
  | zero =>
    intro ord P did A hl
    unfold findL
    rw [hl]
    simp only [leastN, findN, whole_rc hid A]
    split
    · simp
    · rfl
  | succ u ih =>
    intro ord P did A hl
    rw [findL_go sh hs hid]
    simp only [leastN, whole_rc hid A]
    split
    · simp
    · rw [firstOf_some?, map_some?, List.length_map]
      refine range_some? _ hs _ fun i c hc => ?_
      have hfe := fits_eq hsh hid A hc
      have hi : i < hs.length := (List.getElem?_eq_some_iff.1 hc).1
      have hcid : c.id.toNat = i := by rw [hid i c hc, Int.toNat_natCast]
      have hbit : isIn P c = P.testBit i := by unfold isIn; rw [hcid]
      have hg : goL sh hs P (itemsOf sh did) c = if nextL sh hs P c && stepL sh (itemsOf sh did) c then (findL sh hs (place P c) (spDo sh (itemsOf sh did) c.op)).map (c.id :: ·) else none := rfl
      rw [hg]
      by_cases hns : (nextL sh hs P c && stepL sh (itemsOf sh did) c) = true
      · rw [if_pos hns]
        obtain ⟨hn, hst⟩ := Bool.and_eq_true_iff.1 hns
        unfold stepL at hst
        obtain ⟨hmay, htold⟩ := Bool.and_eq_true_iff.1 hst
        have hn' := hn
        unfold nextL HC.mayL at hn
        simp only [Bool.and_eq_true, Bool.not_eq_true'] at hn
        have hin : isIn P c = false := hn.1.1
        have hml : (decide (c.ended < 0) || (c.code == 0)) = true := hn.1.2.1
        have hfit : fitsR sh (hs.map HC.rc) ord (i : Int) = true := by
          rw [hfe, hin, hmay, hml, none_ahead A hc (by rw [← hbit]; exact hin) hml, told_ref hsh A.may c hmay, htold]; rfl
        rw [if_pos hfit]
        have hlp := left_place (n := hs.length) (c := c) (P := P) (by rw [hcid]; exact hi) hin
        rw [ih (ord ++ [(i : Int)]) (place P c) (did ++ [c.op]) (along_put hid A hc hn' hmay) (by omega), itemsOf_snoc, Option.map_map]
        congr 1
        funext r
        simp [hid i c hc]
      · rw [if_neg hns]
        by_cases hfit : fitsR sh (hs.map HC.rc) ord (i : Int) = true
        · rw [if_pos hfit]
          rw [hfe] at hfit
          simp only [Bool.and_eq_true] at hfit
          obtain ⟨hin, hmay, hml, -, hres⟩ := hfit
          rw [told_ref hsh A.may c hmay] at hres
          have hst : stepL sh (itemsOf sh did) c = true := by unfold stepL; rw [hmay, hres]; rfl
          rw [hst, Bool.and_true] at hns
          have hall : ¬ (hs.all (fun d => !(d.must && !isIn P d && d.bef c))) = true := fun h => hns (by
            unfold nextL HC.mayL
            rw [h, hin, hml, hmay]; rfl)
          have hex : ∃ d ∈ hs, (d.must && !isIn P d && d.bef c) = true := by
            refine Classical.byContradiction fun hno => hall (List.all_eq_true.2 fun d hd => ?_)
            cases hb : (d.must && !isIn P d && d.bef c)
            · rfl
            · exact absurd ⟨d, hd, hb⟩ hno
          obtain ⟨d, hd, hb⟩ := hex
          simp only [Bool.and_eq_true, Bool.not_eq_true'] at hb
          obtain ⟨⟨hmu, hdi⟩, hbe⟩ := hb
          obtain ⟨j, hj, hje⟩ := List.mem_iff_getElem.1 hd
          have e1 : hs[j]? = some d := by rw [List.getElem?_eq_getElem hj, hje]
          have hdid : d.id.toNat = j := by rw [hid j d e1, Int.toNat_natCast]
          have hne : j ≠ i := by
            rintro rfl
            obtain rfl : d = c := by rw [e1] at hc; exact Option.some.inj hc
            rw [hself d hd] at hbe; cases hbe
          have hnotin : (j : Int) ∉ ord ++ [(i : Int)] := by
            intro h
            rcases List.mem_append.1 h with h | h
            · unfold isIn at hdi
              rw [hdid, A.bits j hj] at hdi
              have : ord.contains (j : Int) = true := by simpa using h
              rw [this] at hdi; cases hdi
            · have : (j : Int) = i := by simpa using h
              omega
          rw [dead_none sh hs u (ord ++ [(i : Int)]) j i d c e1 hc hmu hnotin (by simp) hbe]
          rfl
        · rw [if_neg hfit]; rfl
theorem least_all {sh : Int} (hsh : 1 ≤ sh ∧ sh ≤ 4) {hs : List HC} (hid : Numbered hs) (hself : ∀ c ∈ hs, c.bef c = false) : leastN sh (hs.map HC.rc) hs.length [] = findL sh hs 0 [] := by
  have hl0 : left hs.length 0 = hs.length := by
    unfold left
    have : ((List.range hs.length).filter fun i => !(0 : Nat).testBit i) = List.range hs.length := List.filter_eq_self.2 (fun i _ => by simp)
    rw [this, List.length_range]
  rw [least_find hsh hid hself hs.length [] 0 [] (along_new sh hs) hl0]
  show Option.map (fun x => x) _ = _
  exact Option.map_id'
end Go.Proofs.YtboommppikfgnaaDoor
