/- Plain law of the search's memory: keys tell what is placed and the items.
   Conditions: none. -/
import Derived.Test.YtboommppikfgnaaDoorLinKey
import Derived.Test.YtboommppikfgnaaDoorSPlay
import Derived.Maps.Own
import Derived.Maps.OwnOps
import Derived.Maps.Views
import Derived.Maps.OwnSet
import Derived.StringKeys
namespace Go.Proofs.YtboommppikfgnaaDoor
open Go Go.RowKit

def isDg (c : UInt8) : Bool := decide (48 ≤ c.toNat) && decide (c.toNat ≤ 57)
def dgVal (l : List UInt8) : Nat := l.foldl (fun n c => 10 * n + (c.toNat - 48)) 0
theorem dg_of (d : Nat) (h : d < 10) : (UInt8.ofNat (48 + d)).toNat = 48 + d := by rw [UInt8.toNat_ofNat']; omega
theorem dg_is (d : Nat) (h : d < 10) : isDg (UInt8.ofNat (48 + d)) = true := by unfold isDg; rw [dg_of d h]; simp; omega
theorem dg_all (u : Nat) : (Lib.decDigits u).all isDg = true := by
  induction u using Nat.strongRecOn with
  | _ u ih =>
    rw [Lib.decDigits]
    split
    · simp only [List.all_cons, List.all_nil, Bool.and_true]; exact dg_is u (by assumption)
    · rw [List.all_append, ih (u / 10) (by omega)]
      simp only [List.all_cons, List.all_nil, Bool.and_true, Bool.true_and]; exact dg_is (u % 10) (by omega)
theorem dgVal_snoc (l : List UInt8) (c : UInt8) : dgVal (l ++ [c]) = 10 * dgVal l + (c.toNat - 48) := by simp [dgVal]
theorem dgVal_dec (u : Nat) : dgVal (Lib.decDigits u) = u := by
  induction u using Nat.strongRecOn with
  | _ u ih =>
    rw [Lib.decDigits]
    split
    · have := dg_of u (by assumption)
      simp only [dgVal, List.foldl_cons, List.foldl_nil, this]; omega
    · rw [dgVal_snoc, ih (u / 10) (by omega), dg_of (u % 10) (by omega)]; omega
theorem dec_inj {u v : Nat} (h : Lib.decDigits u = Lib.decDigits v) : u = v := by rw [← dgVal_dec u, h, dgVal_dec]

theorem cut_same : ∀ (a b r s : List UInt8), a.all isDg = true → b.all isDg = true → (r = [] ∨ ∃ t, r = 32 :: t) → (s = [] ∨ ∃ t, s = 32 :: t) → a ++ r = b ++ s → a = b ∧ r = s
  | [], [], r, s, _, _, _, _, h => ⟨rfl, h⟩
  | [], c :: b, r, s, _, hb, hr, _, h => by
    rw [List.all_cons, Bool.and_eq_true] at hb
    rcases hr with rfl | ⟨t, rfl⟩
    · cases h
    · injection h with h1 _
      subst h1
      exact absurd hb.1 (by decide)
  | c :: a, [], r, s, ha, _, _, hs, h => by
    rw [List.all_cons, Bool.and_eq_true] at ha
    rcases hs with rfl | ⟨t, rfl⟩
    · cases h
    · injection h with h1 _
      subst h1
      exact absurd ha.1 (by decide)
  | c :: a, d :: b, r, s, ha, hb, hr, hs, h => by
    rw [List.all_cons, Bool.and_eq_true] at ha hb
    injection h with h1 h2
    obtain ⟨e1, e2⟩ := cut_same a b r s ha.2 hb.2 hr hs h2
    exact ⟨by rw [h1, e1], e2⟩
theorem itoa_dec (x : Int) (h : 0 ≤ x) : Lib.itoa x = Lib.decDigits x.toNat := by unfold Lib.itoa; rw [if_neg (by omega)]
theorem tail_inj : ∀ (l m : List Int), (∀ x ∈ l, 0 ≤ x) → (∀ x ∈ m, 0 ≤ x) → (l.flatMap fun x => 32 :: Lib.itoa x) = (m.flatMap fun x => 32 :: Lib.itoa x) → l = m
  | [], [], _, _, _ => rfl
  | [], y :: m, _, _, h => by simp at h
  | x :: l, [], _, _, h => by simp at h
  | x :: l, y :: m, hl, hm, h => by
    simp only [List.flatMap_cons, List.cons_append] at h
    injection h with _ h
    have hx := hl x (List.mem_cons_self ..)
    have hy := hm y (List.mem_cons_self ..)
    rw [itoa_dec x hx, itoa_dec y hy] at h
    have hh : ∀ l : List Int, (l.flatMap fun x => 32 :: Lib.itoa x) = [] ∨ ∃ t, (l.flatMap fun x => 32 :: Lib.itoa x) = 32 :: t := fun l => by
      cases l with
      | nil => exact .inl rfl
      | cons z l => exact .inr ⟨Lib.itoa z ++ l.flatMap (fun x => 32 :: Lib.itoa x), by simp only [List.flatMap_cons, List.cons_append]⟩
    obtain ⟨e1, e2⟩ := cut_same _ _ _ _ (dg_all _) (dg_all _) (hh l) (hh m) h
    have e3 := dec_inj e1
    have e4 := tail_inj l m (fun z hz => hl z (List.mem_cons_of_mem _ hz)) (fun z hz => hm z (List.mem_cons_of_mem _ hz)) e2
    rw [e4, show x = y by omega]
theorem keyL_inj {P Q : Nat} {l m : List Int} (hl : ∀ x ∈ l, 0 ≤ x) (hm : ∀ x ∈ m, 0 ≤ x) (h : keyL P l = keyL Q m) : P = Q ∧ l = m := by
  unfold keyL at h
  have hh : ∀ l : List Int, (l.flatMap fun x => 32 :: Lib.itoa x) = [] ∨ ∃ t, (l.flatMap fun x => 32 :: Lib.itoa x) = 32 :: t := fun l => by
    cases l with
    | nil => exact .inl rfl
    | cons z l => exact .inr ⟨Lib.itoa z ++ l.flatMap (fun x => 32 :: Lib.itoa x), by simp only [List.flatMap_cons, List.cons_append]⟩
  obtain ⟨e1, e2⟩ := cut_same _ _ _ _ (dg_all _) (dg_all _) (hh l) (hh m) h
  exact ⟨dec_inj e1, tail_inj l m hl hm e2⟩

theorem spDo_mem (sh : Int) (l : List Int) (o : Opn) (x : Int) (h : x ∈ spDo sh l o) : x ∈ l ∨ x = o.key := by
  unfold spDo at h
  split at h
  · split at h
    · exact .inl h
    · unfold insAt at h
      rcases List.mem_append.1 h with h | h
      · exact .inl (List.mem_of_mem_take h)
      · rcases List.mem_cons.1 h with h | h
        · exact .inr h
        · exact .inl (List.mem_of_mem_drop h)
  · split at h
    · split at h
      · exact .inl (List.mem_of_mem_eraseIdx h)
      · exact .inl h
    · split at h
      · exact .inl h
      · split at h
        · split at h
          · rcases List.mem_append.1 h with h | h
            · exact .inl h
            · exact .inr (by simpa using h)
          · rcases List.mem_cons.1 h with h | h
            · exact .inr h
            · exact .inl h
        · exact .inl (List.mem_of_mem_tail h)
theorem fold_mem (sh : Int) : ∀ (did : List Opn) (l : List Int) (x : Int), x ∈ did.foldl (spDo sh) l → x ∈ l ∨ ∃ o ∈ did, x = o.key
  | [], l, x, h => .inl h
  | o :: did, l, x, h => by
    rw [List.foldl_cons] at h
    rcases fold_mem sh did _ x h with h | ⟨p, hp, e⟩
    · rcases spDo_mem sh l o x h with h | h
      · exact .inl h
      · exact .inr ⟨o, List.mem_cons_self .., h⟩
    · exact .inr ⟨p, List.mem_cons_of_mem _ hp, e⟩
theorem items_rng (sh : Int) (did : List Opn) (h : allMay sh did) : ∀ x ∈ itemsOf sh did, 0 ≤ x ∧ x ≤ 999 := by
  intro x hx
  rcases fold_mem sh did [] x hx with hx | ⟨o, ho, rfl⟩
  · cases hx
  · have := h o ho
    exact ⟨this.1, this.2.1⟩

/-- what is kept in the search's memory leads nowhere -/
def VainOk (sh : Int) (cs : List HC) (m : Nat) (D : DataW Unit) : Prop :=
  ∀ (P : Nat) (items : List Int) (c : Int), (∀ x ∈ items, 0 ≤ x) → D.atKey (.string (keyL P items)) (.lit (.int .i64 0)) = .lit (.int .i64 c) → 0 ≤ c ∧ c ≤ m ∧ (0 < c → findL sh cs P items = none)
theorem VainOk.nil (sh : Int) (cs : List HC) : VainOk sh cs 0 (.map []) := by
  intro P items c _ h
  have : (DataW.map [] : DataW Unit).atKey (.string (keyL P items)) (.lit (.int .i64 0)) = .lit (.int .i64 0) := rfl
  rw [this] at h
  injection h with h
  injection h with _ h
  omega
theorem VainOk.put {sh : Int} {cs : List HC} {m : Nat} {D : DataW Unit} (h : VainOk sh cs m D) (hD : Go.Maps.IsMap D) {P : Nat} {items : List Int} {c : Int} (hi : ∀ x ∈ items, 0 ≤ x) (hf : findL sh cs P items = none) (hc : 0 ≤ c ∧ c ≤ m) :
    VainOk sh cs (m + 1) (D.put (.string (keyL P items)) (.lit (.int .i64 (c + 1)))) := by
  intro Q items' c' hi' hat
  by_cases he : keyL Q items' = keyL P items
  · obtain ⟨rfl, rfl⟩ := keyL_inj hi' hi he
    rw [Go.Maps.atKey_put_same hD (by simp [WideAt.IsKeyLit])] at hat
    injection hat with hat
    injection hat with _ hat
    exact ⟨by omega, by omega, fun _ => hf⟩
  · rw [Go.Maps.atKey_put_other (fun e => he (by injection e))] at hat
    obtain ⟨h1, h2, h3⟩ := h Q items' c' hi' hat
    exact ⟨h1, by omega, h3⟩
theorem VainOk.mono {sh : Int} {cs : List HC} {m m' : Nat} {D : DataW Unit} (h : VainOk sh cs m D) (hm : m ≤ m') : VainOk sh cs m' D := fun P items c hi hat => by
  obtain ⟨h1, h2, h3⟩ := h P items c hi hat
  exact ⟨h1, by omega, h3⟩
end Go.Proofs.YtboommppikfgnaaDoor
