/- Plain laws: what is inserted in a set, and deleted, leaves it as it was, but for that key; items are no less than 0.
   Conditions: none. -/
import Derived.Test.YtboommppikfgnaaSpPlain
namespace Go.Proofs.Ytboommppikfgnaa
open Go Go.RowKit

/-- without a key -/
def without (l : List Int) (x : Int) : List Int := l.filter fun y => y != x
theorem setS_without (did did' : List Opn) (x : Int) (h : ∀ j, inS did' j = (inS did j && (j != x))) : setS did' = without (setS did) x := by
  unfold setS without
  rw [List.filter_filter]
  refine List.filter_congr fun j _ => ?_
  rw [h, Bool.and_comm]
theorem without_len (l : List Int) (x : Int) : decide ((without l x).length = l.length) = !l.contains x := by
  unfold without
  rw [Bool.eq_iff_iff, decide_eq_true_eq, List.length_filter_eq_length_iff]
  simp only [bne_iff_ne, ne_eq, Bool.not_eq_eq_eq_not, Bool.not_true, List.contains_eq_mem, decide_eq_false_iff_not]
  exact ⟨fun h hx => h x hx rfl, fun h a ha e => h (e ▸ ha)⟩
theorem mayP_set {K kind x : Int} (hK : K = 1 ∨ K = 2) (hx : 0 ≤ x ∧ x ≤ 999) (hk : kind = 1 ∨ kind = 2 ∨ kind = 3) : mayP K kind x := by unfold mayP; omega

structure Undone (K : Int) (l : List Int) (x : Int) (l1 l2 : List Int) : Prop where
  t1 : spTell l ⟨1, x⟩ = ⟨0, !l.contains x, 0⟩
  d1 : spDo K l ⟨1, x⟩ = l1
  t2 : spTell l1 ⟨3, x⟩ = ⟨0, true, 0⟩
  d2 : spDo K l1 ⟨3, x⟩ = l1
  t3 : spTell l1 ⟨2, x⟩ = ⟨0, true, 0⟩
  d3 : spDo K l1 ⟨2, x⟩ = l2
  t4 : spTell l2 ⟨2, x⟩ = ⟨0, false, 0⟩
  d4 : spDo K l2 ⟨2, x⟩ = l2
  r0 : rises l
  r1 : rises l1
  r2 : rises l2
  n1 : l1.length ≤ l.length + 1
  n2 : l2.length ≤ l.length
  eq : l2 = without l x

theorem undo_set (K : Int) (hK : K = 1 ∨ K = 2) (did : List Opn) (h : allMay K did) (x : Int) (hx : 0 ≤ x ∧ x ≤ 999) : ∃ l1 l2, Undone K (itemsOf K did) x l1 l2 := by
  have hs : 1 ≤ K ∧ K ≤ 4 := by omega
  have m1 := mayP_set hK hx (kind := 1) (by omega)
  have m2 := mayP_set hK hx (kind := 2) (by omega)
  have m3 := mayP_set hK hx (kind := 3) (by omega)
  have a1 := allMay_snoc (o := ⟨1, x⟩) h m1
  have a3 := allMay_snoc (o := ⟨2, x⟩) a1 m2
  have a4 := allMay_snoc (o := ⟨2, x⟩) a3 m2
  have i1 : inS (did ++ [⟨1, x⟩]) x = true := by rw [inS_snoc]; simp
  have i3 : inS (did ++ [⟨1, x⟩] ++ [⟨2, x⟩]) x = false := by rw [inS_snoc]; simp
  have e2 : itemsOf K (did ++ [⟨1, x⟩] ++ [⟨2, x⟩]) = without (itemsOf K did) x := by
    rw [items_set K hK _ a3, items_set K hK _ h]
    refine setS_without _ _ _ fun j => ?_
    rw [inS_snoc, inS_snoc]
    by_cases hj : x = j
    · subst hj; simp
    · have hj' : (j != x) = true := by simp; exact fun e => hj e.symm
      simp [hj, hj']
  have t0 := tell_ref K did ⟨1, x⟩ hs h m1
  have c0 : (itemsOf K did).contains x = inS did x := by rw [items_set K hK _ h]; exact set_contains did x hx.1 hx.2
  have t1 := tell_ref K (did ++ [⟨1, x⟩]) ⟨3, x⟩ hs a1 m3
  have t2 := tell_ref K (did ++ [⟨1, x⟩]) ⟨2, x⟩ hs a1 m2
  have t3 := tell_ref K (did ++ [⟨1, x⟩] ++ [⟨2, x⟩]) ⟨2, x⟩ hs a3 m2
  refine ⟨itemsOf K (did ++ [⟨1, x⟩]), itemsOf K (did ++ [⟨1, x⟩] ++ [⟨2, x⟩]), ?_⟩
  have l2 : (without (itemsOf K did) x).length ≤ (itemsOf K did).length := List.length_filter_le _ _
  refine ⟨?_, (itemsOf_snoc K did ⟨1, x⟩).symm, ?_, rfl, ?_, (itemsOf_snoc K _ ⟨2, x⟩).symm, ?_, ?_, ?_, ?_, ?_, ?_, ?_, e2⟩
  · rw [t0, c0]; rfl
  · rw [t1]; simp [refRes, i1, Rsl.yes]
  · rw [t2]; simp [refRes, i1, Rsl.yes]
  · rw [t3, show refRes K (did ++ [⟨1, x⟩] ++ [⟨2, x⟩]) ⟨2, x⟩ = .yes (inS (did ++ [⟨1, x⟩] ++ [⟨2, x⟩]) x) from rfl, i3]; rfl
  · have c3 : (itemsOf K (did ++ [⟨1, x⟩] ++ [⟨2, x⟩])).contains x = false := by rw [items_set K hK _ a3, set_contains _ x hx.1 hx.2]; exact i3
    unfold spDo
    rw [c3]; simp
  · rw [items_set K hK _ h]; exact set_rises _
  · rw [items_set K hK _ a1]; exact set_rises _
  · rw [items_set K hK _ a3]; exact set_rises _
  · rw [itemsOf_snoc]; exact spDo_len _ _ _
  · rw [e2]; exact l2

/-- items are keys -/
theorem spDo_mem {sh : Int} {l : List Int} {o : Opn} {y : Int} (h : y ∈ spDo sh l o) : y ∈ l ∨ y = o.key := by
  unfold spDo at h
  split at h
  · split at h
    · exact .inl h
    · unfold insAt at h
      simp only [List.mem_append, List.mem_cons] at h
      rcases h with h | h | h
      · exact .inl (List.mem_of_mem_take h)
      · exact .inr h
      · exact .inl (List.mem_of_mem_drop h)
  · split at h
    · split at h
      · exact .inl (List.mem_of_mem_eraseIdx h)
      · exact .inl h
    · split at h
      · exact .inl h
      · split at h
        · split at h
          · simp only [List.mem_append, List.mem_singleton] at h; exact h
          · simp only [List.mem_cons] at h; exact h.symm
        · exact .inl (List.mem_of_mem_tail h)
theorem items_nonneg (sh : Int) (did : List Opn) (h : allMay sh did) : ∀ y ∈ itemsOf sh did, 0 ≤ y := by
  induction did using snocRec with
  | nil => intro y hy; simp [itemsOf] at hy
  | snoc l o ih =>
    obtain ⟨h1, h2⟩ := allMay_init h
    intro y hy
    rw [itemsOf_snoc] at hy
    rcases spDo_mem hy with hy | rfl
    · exact ih h1 y hy
    · unfold mayP at h2; omega
end Go.Proofs.Ytboommppikfgnaa
