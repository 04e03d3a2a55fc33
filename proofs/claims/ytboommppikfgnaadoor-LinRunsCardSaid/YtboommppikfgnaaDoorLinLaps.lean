/- Plain law of histories of calls one behind the other; Behind and Legal of a history that isn't there.
   Conditions: none. -/
import Derived.Test.YtboommppikfgnaaDoorLinSeq
import Derived.Test.YtboommppikfgnaaDoorLinOrder
namespace Go.Proofs.YtboommppikfgnaaDoor
open Go Go.RowKit

/-- a call that is begun and ended at once -/
structure Lp where
  th : Int
  kind : Int
  key : Int
  code : Int
  ok : Bool
  val : Int
def HS.lap (s : HS) (x : Lp) : HS := (s.begin_ x.th x.kind x.key).end_ x.th x.code x.ok x.val
def lapC (i : Nat) (x : Lp) : HC := ⟨2 * (i : Int), 2 * (i : Int) + 1, i, x.th, x.kind, x.key, x.code, x.ok, x.val⟩
structure LapsOk (l : List Lp) (s : HS) : Prop where
  good : s.Good
  calls : ∀ i, s.calls[i]? = (l[i]?).map (lapC i)
  len : s.calls.length = l.length
  evs : s.evs.length = 2 * l.length
  now : ∀ t, s.now t = 0
theorem laps_new : LapsOk [] HS.new := ⟨HS.good_new, fun i => by simp [HS.new], rfl, rfl, fun _ => rfl⟩
theorem lap_good {s : HS} (g : s.Good) (x : Lp) : (s.lap x).Good := HS.good_foldl [evB x.th x.kind x.key, evE x.th x.code x.ok x.val] s g
theorem lap_mid {l : List Lp} {s : HS} (h : LapsOk l s) (x : Lp) (ht : 0 ≤ x.th ∧ x.th < 8) : s.errB x.th = 0 ∧ (s.begin_ x.th x.kind x.key).errE x.th = 0 ∧ (s.begin_ x.th x.kind x.key).evs.length = 2 * l.length + 1 := by
  have e1 : s.errB x.th = 0 := by
    unfold HS.errB
    rw [if_neg (by omega), if_neg (by rw [h.now]; omega)]
  have e2 : s.begin_ x.th x.kind x.key = s.doB x.th.toNat x.kind x.key := by unfold HS.begin_; rw [if_pos e1]
  refine ⟨e1, ?_, ?_⟩
  · rw [e2]
    unfold HS.errE
    rw [if_neg (by omega), if_pos]
    simp only [HS.doB, if_true]; omega
  · rw [e2]
    simp only [HS.doB, List.length_append, List.length_cons, List.length_nil, h.evs]
theorem lap_step {l : List Lp} {s : HS} (h : LapsOk l s) (x : Lp) (ht : 0 ≤ x.th ∧ x.th < 8) : LapsOk (l ++ [x]) (s.lap x) := by
  obtain ⟨e1, e2, e3⟩ := lap_mid h x ht
  have e4 : s.begin_ x.th x.kind x.key = s.doB x.th.toNat x.kind x.key := by unfold HS.begin_; rw [if_pos e1]
  have e5 : s.lap x = (s.doB x.th.toNat x.kind x.key).doE x.th.toNat x.code x.ok x.val := by
    unfold HS.lap HS.end_
    rw [if_pos e2, e4]
  have hth : ((x.th.toNat : Nat) : Int) = x.th := by omega
  refine ⟨lap_good h.good x, fun i => ?_, ?_, ?_, fun t => ?_⟩
  · rw [e5]
    simp only [HS.doE, HS.doB, if_true]
    rw [show ((s.calls.length : Int) + 1 - 1).toNat = s.calls.length by omega]
    rw [List.getElem?_modify]
    by_cases hi : i < l.length
    · have h1 : s.calls.length ≠ i := by rw [h.len]; omega
      simp only [if_neg h1]
      rw [List.getElem?_append_left (by rw [h.len]; exact hi), List.getElem?_append_left hi, h.calls]
      cases l[i]? <;> rfl
    · by_cases hi2 : i = l.length
      · subst hi2
        simp only [if_pos h.len]
        rw [← h.len, List.getElem?_concat_length, h.len, List.getElem?_concat_length]
        show some _ = some _
        simp only [HC.stop, lapC, List.length_append, List.length_cons, List.length_nil, h.evs, h.len, hth]
        congr 2
      · have h1 : s.calls.length ≠ i := by rw [h.len]; omega
        simp only [if_neg h1]
        rw [List.getElem?_eq_none (by simp [h.len]; omega), List.getElem?_eq_none (by simp; omega)]
        rfl
  · rw [e5]; simp [HS.doE, HS.doB, h.len]
  · rw [e5]; simp [HS.doE, HS.doB, h.evs]; omega
  · rw [e5]
    simp only [HS.doE, HS.doB]
    split
    · rfl
    · exact h.now t
theorem laps_seq {l : List Lp} {s : HS} (h : LapsOk l s) (sh : Int) (hm : ∀ x ∈ l, may sh ⟨x.kind, x.key⟩ = true) : Seq sh s.calls := by
  have key : ∀ (i : Nat) (c : HC), s.calls[i]? = some c → ∃ x, l[i]? = some x ∧ c = lapC i x := fun i c hc => by
    rw [h.calls] at hc
    obtain ⟨x, hx, rfl⟩ := Option.map_eq_some_iff.1 hc
    exact ⟨x, hx, rfl⟩
  refine ⟨fun i c hc => ?_, fun i j c d hij hc hd => ?_, fun i c hc => ?_, fun i c hc => ?_⟩
  · obtain ⟨x, -, rfl⟩ := key i c hc; rfl
  · obtain ⟨x, -, rfl⟩ := key i c hc
    obtain ⟨y, -, rfl⟩ := key j d hd
    simp only [lapC]; omega
  · obtain ⟨x, -, rfl⟩ := key i c hc
    simp only [lapC]; omega
  · obtain ⟨x, hx, rfl⟩ := key i c hc
    exact hm x (List.mem_of_getElem? hx)
theorem goSeq_long (sh kind : Int) (ok : Bool) (hk : (kind = 3 ∧ ok = false) ∨ (kind = 4 ∧ ok = true)) : ∀ (cs : List HC), (∀ c ∈ cs, c.code = 0 ∧ c.kind = kind ∧ c.key = 0 ∧ c.ok = ok ∧ c.val = 0) → ∀ items : List Int, (kind = 3 → items = []) → goSeq sh cs items = some (cs.map (·.id))
  | [], _, _, _ => rfl
  | c :: r, h, items, hi => by
    obtain ⟨h1, h2, h3, h4, h5⟩ := h c (List.mem_cons_self ..)
    have ih := goSeq_long sh kind ok hk r (fun d hd => h d (List.mem_cons_of_mem _ hd))
    simp only [goSeq, if_pos h1]
    have htold : c.told (spTell items c.op) = true := by
      unfold HC.told spTell HC.op
      rw [h1, h2, h3, h4, h5]
      rcases hk with ⟨rfl, rfl⟩ | ⟨rfl, rfl⟩
      · rw [hi rfl]; simp [Rsl.yes]
      · simp [Rsl.yes]
    rw [htold, if_pos rfl]
    rw [ih (spDo sh items c.op) (fun h3' => by
      unfold spDo HC.op
      rw [h2, h3]
      subst h3'
      rw [hi rfl]
      simp)]
    rfl

set_option maxRecDepth 100000 in
set_option maxHeartbeats 1600000 in
theorem lin_behind_no (sh : Int) (p : Option Addr) (v : Value) (w : World) (h : (sh < 1 ∨ 4 < sh) ∨ p = none) : Calls Tryd.prog 20 #[.int .i64 sh, .pointer p, v] w fun e w' =>
    e = .returned (.tuple #[.slice none 0 0, .bool false]) ∧ Below w.heap.size w w' := by
  have hn := lin_open_no sh p w h
  go_enter Tryd.func20, Tryd.ntmps20
  go_wp2_with fail
  refine hn.mono ?_
  rintro e w1 ⟨rfl, hb⟩
  go_wp2_with fail
  go_ret2
  exact ⟨rfl, hb⟩
set_option maxHeartbeats 400000 in
theorem lin_legal_of (sh : Int) (p : Option Addr) (v : Value) (w : World) (ok : Bool) (h : Calls Tryd.prog 20 #[.int .i64 sh, .pointer p, v] w fun e w' => (∃ u, e = .returned (.tuple #[u, .bool ok])) ∧ Below w.heap.size w w') :
    Calls Tryd.prog 22 #[.int .i64 sh, .pointer p, v] w fun e w' => e = .returned (.bool ok) ∧ Below w.heap.size w w' := by
  go_enter Tryd.func22, Tryd.ntmps22
  go_wp2_with fail
  refine h.mono ?_
  rintro e w1 ⟨⟨u, rfl⟩, hb⟩
  go_wp2_with fail
  go_ret
  exact ⟨rfl, hb⟩
theorem lin_legal_no (sh : Int) (p : Option Addr) (v : Value) (w : World) (h : (sh < 1 ∨ 4 < sh) ∨ p = none) : Calls Tryd.prog 22 #[.int .i64 sh, .pointer p, v] w fun e w' => e = .returned (.bool false) ∧ Below w.heap.size w w' :=
  lin_legal_of sh p v w false ((lin_behind_no sh p v w h).mono fun _ _ ⟨he, hb⟩ => ⟨⟨_, he⟩, hb⟩)
end Go.Proofs.YtboommppikfgnaaDoor
