/- Plain laws of histories: the calls of a thread stand one before the other; they are those that the document finds in the events.
   Conditions: none. -/
import Derived.Test.YtboommppikfgnaaDoorHPlain
namespace Go.Proofs.YtboommppikfgnaaDoor
open Go Go.RowKit

/-- what each step takes an event for -/
def HS.step (s : HS) (e : Ev) : HS := if e.ends then s.end_ e.th e.code e.ok e.val else s.begin_ e.th e.kind e.key
def HS.run (l : List Ev) : HS := l.foldl HS.step HS.new
theorem HS.run_snoc (l : List Ev) (e : Ev) : HS.run (l ++ [e]) = (HS.run l).step e := by simp [HS.run]

/-- a history that came by events alone -/
structure HS.Good (s : HS) : Prop where
  wf : s.wf
  order : ∀ (i j : Nat) (c d : HC), i < j → s.calls[i]? = some c → s.calls[j]? = some d → c.th = d.th → 0 ≤ c.ended ∧ c.ended < d.began
  rng : ∀ (i : Nat) (c : HC), s.calls[i]? = some c → 0 ≤ c.th ∧ c.th < 8 ∧ 0 ≤ c.began ∧ c.began < s.evs.length ∧ c.ended < s.evs.length ∧ c.id = i
  pend : ∀ (i : Nat) (c : HC), s.calls[i]? = some c → (c.ended < 0 ↔ s.now c.th.toNat = (i : Int) + 1)
  own : ∀ t, 0 < s.now t → ∃ c, s.calls[(s.now t - 1).toNat]? = some c ∧ c.th = (t : Int)
  count : s.evs.length + (s.calls.filter fun c => decide (c.ended < 0)).length = 2 * s.calls.length

theorem HS.good_new : HS.new.Good :=
  ⟨HS.wf_new, fun _ _ _ _ _ h => by simp [HS.new] at h, fun _ _ h => by simp [HS.new] at h, fun _ _ h => by simp [HS.new] at h, fun _ h => by simp [HS.new] at h, by simp [HS.new]⟩

theorem HS.good_doB {s : HS} (g : s.Good) (t : Nat) (kind key : Int) (ht : t < 8) (hno : ¬ 0 < s.now t) : (s.doB t kind key).Good := by
  have hlo := g.wf.lo t
  have hn0 : s.now t = 0 := by omega
  have hpick : ∀ (i : Nat) (c : HC), (s.doB t kind key).calls[i]? = some c → (i < s.calls.length ∧ s.calls[i]? = some c) ∨ (i = s.calls.length ∧ c = ⟨s.evs.length, -1, s.calls.length, t, kind, key, 0, false, 0⟩) := by
    intro i c h
    simp only [HS.doB] at h
    rcases Nat.lt_or_ge i s.calls.length with hl | hl
    · rw [List.getElem?_append_left hl] at h; exact .inl ⟨hl, h⟩
    · rw [List.getElem?_append_right hl] at h
      have : i - s.calls.length = 0 := by
        rcases Nat.eq_zero_or_pos (i - s.calls.length) with h0 | h0
        · exact h0
        · rw [List.getElem?_cons] at h; split at h
          · omega
          · simp at h
      rw [this] at h
      simp at h
      exact .inr ⟨by omega, h.symm⟩
  refine ⟨HS.wf_doB g.wf t kind key, ?_, ?_, ?_, ?_, ?_⟩
  · intro i j c d hij hc hd hcd
    rcases hpick i c hc with ⟨hi, hc⟩ | ⟨hi, rfl⟩
    · rcases hpick j d hd with ⟨hj, hd⟩ | ⟨hj, rfl⟩
      · exact g.order i j c d hij hc hd hcd
      · simp only at hcd
        have hr := g.rng i c hc
        have hp := g.pend i c hc
        rw [hcd, Int.toNat_natCast, hn0] at hp
        refine ⟨?_, by simp only; omega⟩
        rcases Int.lt_or_le c.ended 0 with h | h
        · have := hp.1 h; omega
        · exact h
    · rcases hpick j d hd with ⟨hj, hd⟩ | ⟨hj, _⟩
      · omega
      · omega
  · intro i c hc
    simp only [HS.doB, List.length_append, List.length_cons, List.length_nil]
    rcases hpick i c hc with ⟨hi, hc⟩ | ⟨rfl, rfl⟩
    · have := g.rng i c hc; omega
    · exact ⟨by simp only; omega, by simp only; omega, by simp only; omega, by simp only; omega, by simp only; omega, rfl⟩
  · intro i c hc
    rcases hpick i c hc with ⟨hi, hc⟩ | ⟨rfl, rfl⟩
    · have hp := g.pend i c hc
      have hr := g.rng i c hc
      simp only [HS.doB]
      by_cases htt : c.th.toNat = t
      · rw [if_pos htt]
        rw [htt, hn0] at hp
        constructor
        · intro h; have := hp.1 h; omega
        · intro h; omega
      · rw [if_neg htt]; exact hp
    · simp only [HS.doB, Int.toNat_natCast, if_true]; exact ⟨fun _ => trivial, fun _ => by omega⟩
  · intro u hu
    simp only [HS.doB] at hu ⊢
    by_cases hut : u = t
    · subst hut
      simp
    · rw [if_neg hut] at hu ⊢
      obtain ⟨c, hc, hct⟩ := g.own u hu
      refine ⟨c, ?_, hct⟩
      rw [List.getElem?_append_left (by exact (List.getElem?_eq_some_iff.1 hc).1)]
      exact hc
  · have := g.count
    simp only [HS.doB, List.filter_append, List.length_append, List.length_cons, List.length_nil]
    simp
    omega

theorem modify_some {l : List HC} {k i : Nat} {f : HC → HC} {c : HC} (h : (l.modify k f)[i]? = some c) : ∃ d, l[i]? = some d ∧ ((i ≠ k ∧ c = d) ∨ (i = k ∧ c = f d)) := by
  rw [List.getElem?_modify] at h
  cases hd : l[i]? with
  | none => simp [hd] at h
  | some d =>
    simp [hd] at h
    refine ⟨d, rfl, ?_⟩
    by_cases hik : k = i
    · rw [if_pos hik] at h; exact .inr ⟨hik.symm, h.symm⟩
    · rw [if_neg hik] at h; exact .inl ⟨fun e => hik e.symm, h.symm⟩

theorem filter_modify (f : HC → HC) (p : HC → Bool) : ∀ (l : List HC) (k : Nat) (c : HC), l[k]? = some c → p c = true → p (f c) = false → ((l.modify k f).filter p).length + 1 = (l.filter p).length
  | [], _, _, h, _, _ => by simp at h
  | x :: l, 0, c, h, h1, h2 => by
    simp at h; subst h
    simp [h1, h2]
  | x :: l, k + 1, c, h, h1, h2 => by
    simp at h
    have ih := filter_modify f p l k c h h1 h2
    simp only [List.modify_succ_cons, List.filter_cons]
    split
    · simp only [List.length_cons]; omega
    · exact ih

theorem HS.good_doE {s : HS} (g : s.Good) (t : Nat) (code : Int) (ok : Bool) (val : Int) (hno : 0 < s.now t) : (s.doE t code ok val).Good := by
  obtain ⟨c0, hc0, ht0⟩ := g.own t hno
  obtain ⟨k, hk⟩ : ∃ k : Nat, (s.now t - 1).toNat = k := ⟨_, rfl⟩
  have hk' : s.now t = (k : Int) + 1 := by omega
  rw [hk] at hc0
  have hp0 : c0.ended < 0 := (g.pend k c0 hc0).2 (by rw [ht0, Int.toNat_natCast, hk'])
  have hr0 := g.rng k c0 hc0
  refine ⟨HS.wf_doE g.wf t code ok val, ?_, ?_, ?_, ?_, ?_⟩
  · intro i j c d hij hc hd hcd
    simp only [HS.doE, hk] at hc hd
    obtain ⟨c', hc', hcc⟩ := modify_some hc
    obtain ⟨d', hd', hdd⟩ := modify_some hd
    have hth : c'.th = d'.th := by
      rcases hcc with ⟨_, rfl⟩ | ⟨_, rfl⟩ <;> rcases hdd with ⟨_, rfl⟩ | ⟨_, rfl⟩ <;> simpa [HC.stop] using hcd
    have ho := g.order i j c' d' hij hc' hd' hth
    rcases hcc with ⟨_, rfl⟩ | ⟨rfl, rfl⟩
    · rcases hdd with ⟨_, rfl⟩ | ⟨_, rfl⟩
      · exact ho
      · simpa [HC.stop] using ho
    · rw [hc0] at hc'
      injection hc' with hc'
      subst hc'
      omega
  · intro i c hc
    simp only [HS.doE, hk] at hc
    obtain ⟨c', hc', hcc⟩ := modify_some hc
    have hr := g.rng i c' hc'
    simp only [HS.doE, List.length_append, List.length_cons, List.length_nil]
    rcases hcc with ⟨_, rfl⟩ | ⟨_, rfl⟩
    · omega
    · simp only [HC.stop]; omega
  · intro i c hc
    simp only [HS.doE, hk] at hc
    obtain ⟨c', hc', hcc⟩ := modify_some hc
    have hp := g.pend i c' hc'
    have hr := g.rng i c' hc'
    simp only [HS.doE]
    rcases hcc with ⟨hne, rfl⟩ | ⟨rfl, rfl⟩
    · by_cases htt : c.th.toNat = t
      · rw [if_pos htt]
        rw [htt, hk'] at hp
        constructor
        · intro h; have := hp.1 h; omega
        · intro h; omega
      · rw [if_neg htt]; exact hp
    · rw [hc0] at hc'
      injection hc' with hc'
      subst hc'
      simp only [HC.stop, ht0, Int.toNat_natCast, if_pos]
      omega
  · intro u hu
    simp only [HS.doE] at hu
    by_cases hut : u = t
    · rw [if_pos hut] at hu; omega
    · rw [if_neg hut] at hu
      obtain ⟨c, hc, hct⟩ := g.own u hu
      simp only [HS.doE, hut, if_false, hk]
      refine ⟨if (s.now u - 1).toNat = k then c.stop s.evs.length code ok val else c, ?_, ?_⟩
      · rw [List.getElem?_modify, hc]
        simp only [Option.map_eq_map, Option.map_some, eq_comm]
      · split
        · exact hct
        · exact hct
  · have hcnt := g.count
    have hf := filter_modify (fun c => c.stop s.evs.length code ok val) (fun c => decide (c.ended < 0)) s.calls k c0 hc0 (by simpa using hp0) (by simp only [HC.stop]; exact decide_eq_false (by omega))
    simp only [HS.doE, hk, List.length_append, List.length_cons, List.length_nil, List.length_modify]
    omega

theorem HS.good_begin {s : HS} (g : s.Good) (t kind key : Int) : (s.begin_ t kind key).Good := by
  unfold HS.begin_
  split
  · rename_i h
    unfold HS.errB at h
    split at h
    · omega
    · split at h
      · omega
      · rename_i h1 h2
        exact HS.good_doB g t.toNat kind key (by omega) h2
  · exact g
theorem HS.good_end {s : HS} (g : s.Good) (t code : Int) (ok : Bool) (val : Int) : (s.end_ t code ok val).Good := by
  unfold HS.end_
  split
  · rename_i h
    unfold HS.errE at h
    split at h
    · omega
    · split at h
      · rename_i h1 h2
        exact HS.good_doE g t.toNat code ok val h2
      · omega
  · exact g
theorem HS.good_step {s : HS} (g : s.Good) (e : Ev) : (s.step e).Good := by
  unfold HS.step
  split
  · exact HS.good_end g _ _ _ _
  · exact HS.good_begin g _ _ _
theorem HS.good_foldl (l : List Ev) : ∀ s : HS, s.Good → (l.foldl HS.step s).Good := by
  induction l with
  | nil => intro s g; exact g
  | cons e l ih => intro s g; exact ih _ (HS.good_step g e)
theorem HS.good_run (l : List Ev) : (HS.run l).Good := HS.good_foldl l _ HS.good_new

theorem HS.len_step (s : HS) (e : Ev) : (s.step e).evs.length ≤ s.evs.length + 1 := by
  unfold HS.step HS.end_ HS.begin_
  split <;> split <;> simp [HS.doE, HS.doB]
theorem HS.len_run (l : List Ev) : (HS.run l).evs.length ≤ l.length := by
  unfold HS.run
  suffices h : ∀ (l : List Ev) (s : HS), (l.foldl HS.step s).evs.length ≤ s.evs.length + l.length by simpa [HS.new] using h l HS.new
  intro l
  induction l with
  | nil => intro s; simp
  | cons e l ih => intro s; have := ih (s.step e); have := HS.len_step s e; simp only [List.foldl_cons, List.length_cons]; omega

end Go.Proofs.YtboommppikfgnaaDoor
