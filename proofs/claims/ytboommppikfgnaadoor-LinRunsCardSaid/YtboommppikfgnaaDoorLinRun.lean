/- Plain law of operations that are done one by one, each at its moment, begun ahead of it and ended behind it: their history is linear.
   Conditions: none. -/
import Derived.Test.YtboommppikfgnaaDoorLinLeg
import Derived.Test.YtboommppikfgnaaDoorLinAl
namespace Go.Proofs.YtboommppikfgnaaDoor
open Go Go.RowKit

def upd {α : Type} (f : Nat → α) (i : Nat) (x : α) : Nat → α := fun j => if j = i then x else f j
theorem upd_same {α : Type} (f : Nat → α) (i : Nat) (x : α) : upd f i x i = x := if_pos rfl
theorem upd_other {α : Type} (f : Nat → α) {i j : Nat} (x : α) (h : j ≠ i) : upd f i x j = f j := if_neg h
def cntB (f : Nat → Bool) : Nat → Nat
  | 0 => 0
  | k + 1 => cntB f k + if f k then 1 else 0
theorem cntB_far (f : Nat → Bool) (i : Nat) (x : Bool) : ∀ k, k ≤ i → cntB (upd f i x) k = cntB f k
  | 0, _ => rfl
  | k + 1, h => by
    simp only [cntB]
    rw [cntB_far f i x k (by omega), upd_other f x (by omega : k ≠ i)]
theorem cntB_upd (f : Nat → Bool) (i : Nat) (h : f i = false) : ∀ k, i < k → cntB (upd f i true) k = cntB f k + 1
  | 0, hi => by omega
  | k + 1, hi => by
    simp only [cntB]
    by_cases hk : k = i
    · subst hk
      rw [cntB_far f k true k (Nat.le_refl _), upd_same, h]; simp
    · rw [cntB_upd f i h k (by omega), upd_other f true hk]; omega
theorem cntB_all (f : Nat → Bool) : ∀ k, (∀ i, i < k → f i = true) → cntB f k = k
  | 0, _ => rfl
  | k + 1, h => by
    simp only [cntB]
    rw [cntB_all f k (fun i hi => h i (by omega)), h k (by omega)]; simp
theorem cntB_none (f : Nat → Bool) (h : ∀ i, f i = false) : ∀ k, cntB f k = 0
  | 0 => rfl
  | k + 1 => by simp only [cntB]; rw [cntB_none f h k, h k]; simp

def La.op (x : La) : Opn := ⟨x.kind, x.key⟩
def opsA (las : List La) : List Opn := las.map La.op
/-- when it begins, when it ends -/
def atA (las : List La) (i : Nat) : Int := match las[i]? with
  | some x => 8 * (i : Int) - x.ahead
  | none => 0
def ltA (las : List La) (i : Nat) : Int := match las[i]? with
  | some x => 8 * (i : Int) + x.later
  | none => 0
/-- what it is told -/
def rrA (K : Int) (las : List La) (i : Nat) (x : La) : Rsl := refRes K ((opsA las).take i) x.op
theorem rr_code (sh : Int) (did : List Opn) (o : Opn) : (refRes sh did o).code = 0 := by
  unfold refRes
  split
  · rfl
  · split
    · rfl
    · split
      · rfl
      · split <;> rfl

structure RunOk (K : Int) (las : List La) (s : HS) (ids : Nat → Nat) (bg en : Nat → Bool) : Prop where
  good : s.Good
  lt : ∀ i, bg i = true → i < las.length
  sub : ∀ i, en i = true → bg i = true
  now : ∀ i, i < 8 → s.now i = if bg i = true ∧ en i = false then (ids i : Int) + 1 else 0
  at_ : ∀ i x, las[i]? = some x → bg i = true → ∃ c, s.calls[ids i]? = some c ∧ c.th = (i : Int) ∧ c.kind = x.kind ∧ c.key = x.key ∧ (en i = true → 0 ≤ c.ended ∧ c.code = 0 ∧ c.ok = (rrA K las i x).ok ∧ c.val = (rrA K las i x).val)
  sur : ∀ k, k < s.calls.length → ∃ i, bg i = true ∧ ids i = k
  ord : ∀ i j c d, bg i = true → en j = true → s.calls[ids i]? = some c → s.calls[ids j]? = some d → atA las i ≤ ltA las j → c.began < d.ended
  cnt : s.calls.length = cntB bg las.length

theorem run_new (K : Int) (las : List La) : RunOk K las HS.new (fun _ => 0) (fun _ => false) (fun _ => false) :=
  ⟨HS.good_new, (fun _ h => by cases h), (fun _ h => by cases h), (fun i _ => by simp [HS.new]), (fun i x _ h => by cases h), (fun k h => by simp [HS.new] at h), (fun _ _ _ _ h => by cases h), (by rw [cntB_none _ (fun _ => rfl)]; rfl)⟩

section
variable {K : Int} {las : List La} {s : HS} {ids : Nat → Nat} {bg en : Nat → Bool}
theorem RunOk.at' (h : RunOk K las s ids bg en) {i : Nat} (hb : bg i = true) : ∃ c, s.calls[ids i]? = some c ∧ c.th = (i : Int) := by
  obtain ⟨x, hx⟩ : ∃ x, las[i]? = some x := ⟨_, List.getElem?_eq_getElem (h.lt i hb)⟩
  obtain ⟨c, h1, h2, -⟩ := h.at_ i x hx hb
  exact ⟨c, h1, h2⟩
theorem RunOk.inj (h : RunOk K las s ids bg en) {i j : Nat} (hi : bg i = true) (hj : bg j = true) (he : ids i = ids j) : i = j := by
  obtain ⟨c, h1, h2⟩ := h.at' hi
  obtain ⟨d, h3, h4⟩ := h.at' hj
  rw [he, h3] at h1
  injection h1 with h1
  subst h1
  omega
theorem RunOk.idl (h : RunOk K las s ids bg en) {i : Nat} (hi : bg i = true) : ids i < s.calls.length := by
  obtain ⟨c, h1, h2⟩ := h.at' hi
  exact (List.getElem?_eq_some_iff.1 h1).1
theorem RunOk.begins (h : RunOk K las s ids bg en) (h8 : las.length ≤ 8) {i : Nat} {x : La} (hx : las[i]? = some x) (hb : bg i = false) (ht : ∀ j, en j = true → ltA las j < atA las i) :
    s.errB (i : Int) = 0 ∧ RunOk K las (s.begin_ (i : Int) x.kind x.key) (upd ids i s.calls.length) (upd bg i true) en := by
  have hil := (List.getElem?_eq_some_iff.1 hx).1
  have hno : s.now i = 0 := by rw [h.now i (by omega), if_neg (by simp [hb])]
  have hei : en i = false := by
    cases he : en i
    · rfl
    · have := h.sub i he; rw [hb] at this; cases this
  have e0 : s.errB (i : Int) = 0 := by
    unfold HS.errB
    rw [if_neg (by omega), Int.toNat_natCast, hno, if_neg (by omega)]
  refine ⟨e0, ?_⟩
  have e1 : s.begin_ (i : Int) x.kind x.key = s.doB i x.kind x.key := by unfold HS.begin_; rw [if_pos e0, Int.toNat_natCast]
  rw [e1]
  have hold : ∀ j, bg j = true → (s.doB i x.kind x.key).calls[ids j]? = s.calls[ids j]? := fun j hj => by
    simp only [HS.doB]
    exact List.getElem?_append_left (h.idl hj)
  have hnew : (s.doB i x.kind x.key).calls[s.calls.length]? = some ⟨s.evs.length, -1, s.calls.length, i, x.kind, x.key, 0, false, 0⟩ := by
    simp only [HS.doB]
    exact List.getElem?_concat_length
  have hbgj : ∀ j, j ≠ i → upd bg i true j = bg j := fun j hj => upd_other _ _ hj
  refine ⟨HS.good_doB h.good i x.kind x.key (by omega) (by omega), fun j hj => ?_, fun j hj => ?_, fun j hj => ?_, fun j y hy hj => ?_, fun k hk => ?_, fun j k c d hj hk hc hd hle => ?_, ?_⟩
  · by_cases e : j = i
    · subst e; exact hil
    · rw [hbgj j e] at hj; exact h.lt j hj
  · by_cases e : j = i
    · subst e; exact upd_same _ _ _
    · rw [hbgj j e]; exact h.sub j hj
  · by_cases e : j = i
    · subst e
      simp only [HS.doB, if_true, upd_same, hei, and_self]
    · rw [hbgj j e, upd_other _ _ e]
      simp only [HS.doB, e, if_false]
      exact h.now j hj
  · by_cases e : j = i
    · subst e
      rw [hx] at hy; injection hy with hy; subst hy
      rw [upd_same]
      exact ⟨_, hnew, rfl, rfl, rfl, fun he => by rw [hei] at he; cases he⟩
    · rw [hbgj j e] at hj
      rw [upd_other _ _ e, hold j hj]
      exact h.at_ j y hy hj
  · simp only [HS.doB, List.length_append, List.length_cons, List.length_nil] at hk
    by_cases e : k < s.calls.length
    · obtain ⟨j, hj, hk'⟩ := h.sur k e
      have hji : j ≠ i := fun e => by subst e; rw [hb] at hj; cases hj
      exact ⟨j, by rw [hbgj j hji]; exact hj, by rw [upd_other _ _ hji]; exact hk'⟩
    · exact ⟨i, upd_same _ _ _, by rw [upd_same]; omega⟩
  · have hki : k ≠ i := fun e => by subst e; rw [hei] at hk; cases hk
    have hbk := h.sub k hk
    rw [upd_other _ _ hki, hold k hbk] at hd
    by_cases e : j = i
    · subst e
      have := ht k hk
      omega
    · rw [hbgj j e] at hj
      rw [upd_other _ _ e, hold j hj] at hc
      exact h.ord j k c d hj hk hc hd hle
  · rw [cntB_upd bg i hb _ hil, ← h.cnt]
    simp only [HS.doB, List.length_append, List.length_cons, List.length_nil]
theorem RunOk.ends (h : RunOk K las s ids bg en) (h8 : las.length ≤ 8) {i : Nat} {x : La} (hx : las[i]? = some x) (hb : bg i = true) (he : en i = false) :
    s.errE (i : Int) = 0 ∧ RunOk K las (s.end_ (i : Int) (rrA K las i x).code (rrA K las i x).ok (rrA K las i x).val) ids bg (upd en i true) := by
  have hil := (List.getElem?_eq_some_iff.1 hx).1
  have hno : s.now i = (ids i : Int) + 1 := by rw [h.now i (by omega), if_pos ⟨hb, he⟩]
  have e0 : s.errE (i : Int) = 0 := by
    unfold HS.errE
    rw [if_neg (by omega), Int.toNat_natCast, hno, if_pos (by omega)]
  refine ⟨e0, ?_⟩
  generalize hr : rrA K las i x = r
  have hrc : r.code = 0 := by rw [← hr]; exact rr_code _ _ _
  have e1 : s.end_ (i : Int) r.code r.ok r.val = s.doE i r.code r.ok r.val := by unfold HS.end_; rw [if_pos e0, Int.toNat_natCast]
  rw [e1]
  have hcalls : (s.doE i r.code r.ok r.val).calls = s.calls.modify (ids i) (fun c => c.stop s.evs.length r.code r.ok r.val) := by
    simp only [HS.doE]
    rw [hno, show ((ids i : Int) + 1 - 1).toNat = ids i by omega]
  have hold : ∀ j, bg j = true → j ≠ i → (s.doE i r.code r.ok r.val).calls[ids j]? = s.calls[ids j]? := fun j hj hji => by
    rw [hcalls, List.getElem?_modify]
    have : ids i ≠ ids j := fun e => hji (h.inj hj hb e.symm)
    simp only [if_neg this]
    cases s.calls[ids j]? <;> rfl
  obtain ⟨c0, hc0, hth0, hk0, hy0, -⟩ := h.at_ i x hx hb
  have hnew : (s.doE i r.code r.ok r.val).calls[ids i]? = some (c0.stop s.evs.length r.code r.ok r.val) := by
    rw [hcalls, List.getElem?_modify, hc0]; simp
  refine ⟨HS.good_foldl [evE (i : Int) r.code r.ok r.val] s h.good |> fun g => ?_, h.lt, fun j hj => ?_, fun j hj => ?_, fun j y hy hj => ?_, fun k hk => ?_, fun j k c d hj hk hc hd hle => ?_, ?_⟩
  · have : [evE (i : Int) r.code r.ok r.val].foldl HS.step s = s.doE i r.code r.ok r.val := e1
    rw [← this]; exact g
  · by_cases e : j = i
    · subst e; exact hb
    · rw [upd_other _ _ e] at hj; exact h.sub j hj
  · by_cases e : j = i
    · subst e
      simp only [HS.doE, if_true, upd_same]
      simp
    · rw [upd_other _ _ e]
      simp only [HS.doE, e, if_false]
      exact h.now j hj
  · by_cases e : j = i
    · subst e
      rw [hx] at hy; injection hy with hy; subst hy
      refine ⟨_, hnew, hth0, hk0, hy0, fun _ => ?_⟩
      rw [hr]
      exact ⟨by simp only [HC.stop]; omega, hrc, rfl, rfl⟩
    · rw [hold j hj e, upd_other _ _ e]
      exact h.at_ j y hy hj
  · rw [hcalls, List.length_modify] at hk
    exact h.sur k hk
  · -- the order in time
    have hbj : ∃ c', s.calls[ids j]? = some c' ∧ c'.began = c.began := by
      by_cases e : j = i
      · subst e
        rw [hnew] at hc; injection hc with hc; subst hc
        exact ⟨c0, hc0, rfl⟩
      · rw [hold j hj e] at hc; exact ⟨c, hc, rfl⟩
    obtain ⟨c', hc', hbc⟩ := hbj
    by_cases e : k = i
    · subst e
      rw [hnew] at hd; injection hd with hd; subst hd
      have := h.good.rng _ c' hc'
      rw [← hbc]
      simp only [HC.stop]; omega
    · rw [upd_other _ _ e] at hk
      rw [hold k (h.sub k hk) e] at hd
      rw [← hbc]
      exact h.ord j k c' d hj hk hc' hd hle
  · rw [hcalls, List.length_modify]; exact h.cnt

/-- the order in time -/
def idsL (n : Nat) (ids : Nat → Nat) : List Int := (List.range n).map fun i => (ids i : Int)
theorem idsL_len (n : Nat) (ids : Nat → Nat) : (idsL n ids).length = n := by unfold idsL; simp
theorem idsL_at {n : Nat} (ids : Nat → Nat) {j : Nat} (h : j < n) : (idsL n ids)[j]? = some (ids j : Int) := by
  unfold idsL; rw [List.getElem?_map, List.getElem?_range h]; rfl
theorem idsL_set (n : Nat) (ids : Nat → Nat) (i v : Nat) : (idsL n ids).set i (v : Int) = idsL n (upd ids i v) := by
  refine List.ext_getElem? fun j => ?_
  rw [List.getElem?_set]
  by_cases hj : j < n
  · rw [idsL_at _ hj, idsL_at _ hj]
    by_cases e : i = j
    · subst e; rw [if_pos rfl, upd_same, if_pos (by rw [idsL_len]; exact hj)]
    · rw [if_neg e, upd_other _ _ (fun e' => e e'.symm)]
  · rw [List.getElem?_eq_none (by rw [idsL_len]; omega), List.getElem?_eq_none (by rw [idsL_len]; omega), idsL_len]
    by_cases e : i = j
    · rw [if_pos e, if_neg (by omega)]
    · rw [if_neg e]
theorem idsL_take {n : Nat} (ids : Nat → Nat) {j : Nat} (h : j ≤ n) : (idsL n ids).take j = idsL j ids := by
  refine List.ext_getElem? fun i => ?_
  rw [List.getElem?_take]
  by_cases hi : i < j
  · rw [if_pos hi, idsL_at _ hi, idsL_at _ (by omega)]
  · rw [if_neg hi, List.getElem?_eq_none (by rw [idsL_len]; omega)]
theorem idsL_mem {n : Nat} {ids : Nat → Nat} {x : Int} (h : x ∈ idsL n ids) : ∃ i, i < n ∧ x = (ids i : Int) := by
  unfold idsL at h
  obtain ⟨i, hi, e⟩ := List.mem_map.1 h
  exact ⟨i, List.mem_range.1 hi, e.symm⟩

/-- all have begun and ended -/
structure RunAll (K : Int) (las : List La) (s : HS) (ids : Nat → Nat) : Prop where
  ok : ∃ bg en, RunOk K las s ids bg en ∧ (∀ i, i < las.length → bg i = true) ∧ (∀ i, i < las.length → en i = true)
  sh : 1 ≤ K ∧ K ≤ 4
  may : ∀ x ∈ las, may K x.op = true
  dur : ∀ x ∈ las, 0 ≤ x.ahead ∧ 0 ≤ x.later

theorem RunAll.len (R : RunAll K las s ids) : s.calls.length = las.length := by
  obtain ⟨bg, en, h, hb, he⟩ := R.ok
  rw [h.cnt, cntB_all _ _ hb]
theorem RunAll.good (R : RunAll K las s ids) : s.Good := by
  obtain ⟨bg, en, h, hb, he⟩ := R.ok
  exact h.good
theorem RunAll.at_ (R : RunAll K las s ids) {i : Nat} {x : La} (hx : las[i]? = some x) : ∃ c, s.calls[ids i]? = some c ∧ c.th = (i : Int) ∧ c.op = x.op ∧ 0 ≤ c.ended ∧ c.code = 0 ∧ c.ok = (rrA K las i x).ok ∧ c.val = (rrA K las i x).val ∧ c.id = (ids i : Int) := by
  obtain ⟨bg, en, h, hb, he⟩ := R.ok
  have hil := (List.getElem?_eq_some_iff.1 hx).1
  obtain ⟨c, h1, h2, h3, h4, h5⟩ := h.at_ i x hx (hb i hil)
  obtain ⟨g1, g2, g3, g4⟩ := h5 (he i hil)
  exact ⟨c, h1, h2, by unfold HC.op La.op; rw [h3, h4], g1, g2, g3, g4, (h.good.rng _ c h1).2.2.2.2.2⟩
theorem RunAll.inj (R : RunAll K las s ids) {i j : Nat} (hi : i < las.length) (hj : j < las.length) (e : ids i = ids j) : i = j := by
  obtain ⟨bg, en, h, hb, he⟩ := R.ok
  exact h.inj (hb i hi) (hb j hj) e
theorem RunAll.sur (R : RunAll K las s ids) {k : Nat} {c : HC} (hk : s.calls[k]? = some c) : ∃ i, i < las.length ∧ ids i = k := by
  obtain ⟨bg, en, h, hb, he⟩ := R.ok
  obtain ⟨i, hi, e⟩ := h.sur k (List.getElem?_eq_some_iff.1 hk).1
  exact ⟨i, h.lt i hi, e⟩
/-- none that stands later ended ahead of one's beginning -/
theorem RunAll.bef (R : RunAll K las s ids) {i j : Nat} {c d : HC} (hij : i ≤ j) (hj : j < las.length) (hc : s.calls[ids i]? = some c) (hd : s.calls[ids j]? = some d) : d.bef c = false := by
  obtain ⟨bg, en, h, hb, he⟩ := R.ok
  have hi : i < las.length := by omega
  obtain ⟨x, hx⟩ : ∃ x, las[i]? = some x := ⟨_, List.getElem?_eq_getElem hi⟩
  obtain ⟨y, hy⟩ : ∃ y, las[j]? = some y := ⟨_, List.getElem?_eq_getElem hj⟩
  have h1 := R.dur x (List.mem_of_getElem? hx)
  have h2 := R.dur y (List.mem_of_getElem? hy)
  have := h.ord i j c d (hb i hi) (he j hj) hc hd (by unfold atA ltA; rw [hx, hy]; simp only; omega)
  unfold HC.bef
  have e : decide (d.ended < c.began) = false := decide_eq_false (by omega)
  rw [e, Bool.and_false]
theorem RunAll.allMay (R : RunAll K las s ids) (j : Nat) : allMay K ((opsA las).take j) := by
  intro o ho
  obtain ⟨x, hx, rfl⟩ := List.mem_map.1 (List.mem_of_mem_take ho)
  exact of_decide_eq_true (R.may x hx)
theorem RunAll.step (R : RunAll K las s ids) {j : Nat} {x : La} {c : HC} (hx : las[j]? = some x) (hc : s.calls[ids j]? = some c) : c.mayL K = true ∧ stepL K (itemsOf K ((opsA las).take j)) c = true ∧ c.op = x.op := by
  obtain ⟨c', h1, h2, h3, h4, h5, h6, h7, h8⟩ := R.at_ hx
  rw [hc] at h1; injection h1 with h1; subst h1
  have hm := R.may x (List.mem_of_getElem? hx)
  refine ⟨?_, ?_, h3⟩
  · unfold HC.mayL
    rw [h3, hm, h5]; simp
  · unfold stepL HC.told
    rw [h3, hm, tell_ref K _ x.op R.sh (R.allMay j) (of_decide_eq_true hm), h5, h6, h7]
    unfold rrA
    rw [rr_code]
    simp
theorem opsA_take {las : List La} {j : Nat} {x : La} (hx : las[j]? = some x) : (opsA las).take (j + 1) = (opsA las).take j ++ [x.op] := by
  refine take_one (opsA las) j x.op ?_
  unfold opsA
  rw [List.getElem?_map, hx]; rfl
theorem RunAll.did (R : RunAll K las s ids) : ∀ j, j ≤ las.length → didL s.calls (idsL j ids) = (opsA las).take j
  | 0, _ => rfl
  | j + 1, hj => by
    obtain ⟨x, hx⟩ : ∃ x, las[j]? = some x := ⟨_, List.getElem?_eq_getElem (by omega)⟩
    obtain ⟨c, h1, h2, h3, -⟩ := R.at_ hx
    have e : idsL (j + 1) ids = idsL j ids ++ [(ids j : Int)] := by
      unfold idsL; rw [List.range_succ, List.map_append]; rfl
    rw [e, didL_snoc (by omega) (by rw [Int.toNat_natCast]; exact h1), R.did j (by omega), opsA_take hx, h3]
theorem RunAll.pass (R : RunAll K las s ids) {j : Nat} (hj : j < las.length) : passL K s.calls (idsL j ids) (ids j : Int) = true := by
  obtain ⟨x, hx⟩ : ∃ x, las[j]? = some x := ⟨_, List.getElem?_eq_getElem hj⟩
  obtain ⟨c, h1, -⟩ := R.at_ hx
  obtain ⟨s1, s2, -⟩ := R.step hx h1
  unfold passL
  rw [cAt_nat h1]
  simp only
  rw [R.did j (by omega), s1, s2]
  have : (idsL j ids).contains (ids j : Int) = false := by
    cases hc : (idsL j ids).contains (ids j : Int)
    · rfl
    · have hm : (ids j : Int) ∈ idsL j ids := by simpa using hc
      obtain ⟨i, hi, e⟩ := idsL_mem hm
      have := R.inj (show i < las.length by omega) hj (by omega)
      omega
  rw [this]; rfl
theorem RunAll.legal (R : RunAll K las s ids) : behindL K s.calls (idsL las.length ids) = true := by
  rw [behind_legal R.sh (fun i c hc => (R.good.rng i c hc).2.2.2.2.2)]
  unfold legalR
  rw [Bool.and_eq_true]
  constructor
  · unfold fitsTo
    rw [List.all_eq_true]
    intro j hj
    rw [List.mem_range, idsL_len] at hj
    rw [idsL_at ids hj, idsL_take ids (by omega)]
    simp only
    rw [fits_pass R.sh (by rw [R.did j (by omega)]; exact R.allMay j), R.pass hj, Bool.true_and]
    obtain ⟨x, hx⟩ : ∃ x, las[j]? = some x := ⟨_, List.getElem?_eq_getElem hj⟩
    obtain ⟨c, h1, -⟩ := R.at_ hx
    have e := rAt_rc h1
    rw [e]
    simp only
    unfold noneAhead
    rw [List.all_eq_true]
    intro y hy
    obtain ⟨i, hi, rfl⟩ := idsL_mem hy
    obtain ⟨z, hz⟩ : ∃ z, las[i]? = some z := ⟨_, List.getElem?_eq_getElem (by omega : i < las.length)⟩
    obtain ⟨d, h2, -⟩ := R.at_ hz
    rw [rAt_rc h2]
    simp only
    have := R.bef (show i ≤ j by omega) hj h2 h1
    rw [bef_span, this]; rfl
  · unfold wholeTo
    rw [List.all_eq_true]
    intro k hk
    rw [List.mem_range, List.length_map] at hk
    obtain ⟨c, hc⟩ : ∃ c, s.calls[k]? = some c := ⟨_, List.getElem?_eq_getElem hk⟩
    obtain ⟨i, hi, rfl⟩ := R.sur hc
    rw [List.getElem?_map, hc]
    simp only [Option.map_some]
    have : (idsL las.length ids).contains (ids i : Int) = true := by
      simp only [List.contains_iff_mem]
      exact List.mem_of_getElem? (idsL_at ids hi)
    rw [this]; simp
theorem RunAll.find (R : RunAll K las s ids) : ∀ (u j P : Nat), las.length - j = u → j ≤ las.length → (∀ i c, i < las.length → s.calls[ids i]? = some c → isIn P c = decide (i < j)) → (findL K s.calls P (itemsOf K ((opsA las).take j))).isSome = true := by
  have hid : Numbered s.calls := fun i c hc => (R.good.rng i c hc).2.2.2.2.2
  intro u
  induction u with
  | zero =>
    intro j P hu hj hP
    have hw : wholeL s.calls P = true := by
      unfold wholeL
      rw [List.all_eq_true]
      intro c hc
      obtain ⟨k, hk, e⟩ := List.mem_iff_getElem.1 hc
      have hc : s.calls[k]? = some c := by rw [List.getElem?_eq_getElem hk, e]
      obtain ⟨i, hi, rfl⟩ := R.sur hc
      rw [hP i c hi hc, decide_eq_true (by omega)]; simp
    rw [findL_go K s.calls hid, hw]; rfl
  | succ u ih =>
    intro j P hu hj hP
    rw [findL_go K s.calls hid]
    split
    · rfl
    · have hjl : j < las.length := by omega
      obtain ⟨x, hx⟩ : ∃ x, las[j]? = some x := ⟨_, List.getElem?_eq_getElem hjl⟩
      obtain ⟨c, h1, -, -, -, -, -, -, hcid⟩ := R.at_ hx
      obtain ⟨s1, s2, s3⟩ := R.step hx h1
      refine firstOf_isSome (List.mem_of_getElem? h1) ?_
      have hnx : nextL K s.calls P c = true := by
        unfold nextL
        rw [hP j c hjl h1, s1, decide_eq_false (by omega)]
        have : (s.calls.all fun d => !(d.must && !isIn P d && d.bef c)) = true := by
          rw [List.all_eq_true]
          intro d hd
          obtain ⟨k, hk, e⟩ := List.mem_iff_getElem.1 hd
          have hd : s.calls[k]? = some d := by rw [List.getElem?_eq_getElem hk, e]
          obtain ⟨i, hi, rfl⟩ := R.sur hd
          by_cases hij : i < j
          · rw [hP i d hi hd, decide_eq_true hij]; simp
          · rw [R.bef (show j ≤ i by omega) hi h1 hd]; simp
        rw [this]; rfl
      unfold goL
      rw [hnx, s2]
      simp only [Bool.and_self, if_true, Option.isSome_map]
      rw [s3, ← itemsOf_snoc, ← opsA_take hx]
      refine ih (j + 1) (place P c) (by omega) (by omega) fun i d hi hd => ?_
      have hdid := (R.good.rng _ d hd).2.2.2.2.2
      have h3 := hP i d hi hd
      unfold isIn at h3 ⊢
      rw [testBit_place, h3, hdid, hcid, Int.toNat_natCast, Int.toNat_natCast]
      by_cases e : i = j
      · subst e; simp
      · have : ¬ ids j = ids i := fun e' => e (R.inj hi hjl e'.symm)
        by_cases h4 : i < j
        · rw [decide_eq_true h4, decide_eq_true (show i < j + 1 by omega)]; rfl
        · rw [decide_eq_false h4, decide_eq_false this, decide_eq_false (by omega)]; rfl
theorem RunAll.find0 (R : RunAll K las s ids) : (findL K s.calls 0 []).isSome = true :=
  R.find las.length 0 0 (by omega) (by omega) (fun i c _ _ => by unfold isIn; simp)
end
/-- what has begun, what has ended, ahead of a time; at that time: the first k -/
def bgA (las : List La) (t : Int) (k : Nat) (i : Nat) : Bool := decide (i < las.length) && (decide (atA las i < t) || (decide (atA las i = t) && decide (i < k)))
def enA (las : List La) (t : Int) (k : Nat) (i : Nat) : Bool := decide (i < las.length) && (decide (ltA las i < t) || (decide (ltA las i = t) && decide (i < k)))
theorem bgA_next {las : List La} (t : Int) : bgA las t las.length = bgA las (t + 1) 0 := by
  funext i
  unfold bgA
  by_cases h : i < las.length
  · by_cases h1 : atA las i < t
    · have h2 : atA las i < t + 1 := by omega
      simp [h, h1, h2]
    · by_cases h3 : atA las i = t
      · have h2 : atA las i < t + 1 := by omega
        simp [h, h3]; omega
      · have h2 : ¬ atA las i < t + 1 := by omega
        simp [h1, h2, h3]
  · simp [h]
theorem enA_next {las : List La} (t : Int) : enA las t las.length = enA las (t + 1) 0 := by
  funext i
  unfold enA
  by_cases h : i < las.length
  · by_cases h1 : ltA las i < t
    · have h2 : ltA las i < t + 1 := by omega
      simp [h, h1, h2]
    · by_cases h3 : ltA las i = t
      · have h2 : ltA las i < t + 1 := by omega
        simp [h, h3]; omega
      · have h2 : ¬ ltA las i < t + 1 := by omega
        simp [h1, h2, h3]
  · simp [h]
theorem bgA_skip {las : List La} {t : Int} {k : Nat} (h : atA las k ≠ t) : bgA las t (k + 1) = bgA las t k := by
  funext i
  unfold bgA
  by_cases e : i = k
  · subst e; simp [h]
  · have : decide (i < k + 1) = decide (i < k) := by by_cases h1 : i < k <;> simp [h1] <;> omega
    rw [this]
theorem enA_skip {las : List La} {t : Int} {k : Nat} (h : ltA las k ≠ t) : enA las t (k + 1) = enA las t k := by
  funext i
  unfold enA
  by_cases e : i = k
  · subst e; simp [h]
  · have : decide (i < k + 1) = decide (i < k) := by by_cases h1 : i < k <;> simp [h1] <;> omega
    rw [this]
theorem bgA_put {las : List La} {t : Int} {k : Nat} (hk : k < las.length) (h : atA las k = t) : upd (bgA las t k) k true = bgA las t (k + 1) := by
  funext i
  by_cases e : i = k
  · subst e; rw [upd_same]; unfold bgA; simp [h, hk]
  · rw [upd_other _ _ e]
    unfold bgA
    have : decide (i < k + 1) = decide (i < k) := by by_cases h1 : i < k <;> simp [h1] <;> omega
    rw [this]
theorem enA_put {las : List La} {t : Int} {k : Nat} (hk : k < las.length) (h : ltA las k = t) : upd (enA las t k) k true = enA las t (k + 1) := by
  funext i
  by_cases e : i = k
  · subst e; rw [upd_same]; unfold enA; simp [h, hk]
  · rw [upd_other _ _ e]
    unfold enA
    have : decide (i < k + 1) = decide (i < k) := by by_cases h1 : i < k <;> simp [h1] <;> omega
    rw [this]
theorem bgA_now {las : List La} {t : Int} {k : Nat} (h : atA las k = t) : bgA las t k k = false := by unfold bgA; simp [h]
theorem enA_now {las : List La} {t : Int} {k : Nat} (h : ltA las k = t) : enA las t k k = false := by unfold enA; simp [h]

def Dur (las : List La) : Prop := ∀ x ∈ las, 0 ≤ x.ahead ∧ x.ahead ≤ 255 ∧ 0 ≤ x.later ∧ x.later ≤ 255
section
variable {K : Int} {las : List La} {s : HS} {ids : Nat → Nat}
theorem run_start (hd : Dur las) (K : Int) : RunOk K las HS.new (fun _ => 0) (bgA las (-256) 0) (enA las (-256) 0) := by
  have e1 : bgA las (-256) 0 = fun _ => false := by
    funext i
    unfold bgA
    by_cases h : i < las.length
    · obtain ⟨x, hx⟩ : ∃ x, las[i]? = some x := ⟨_, List.getElem?_eq_getElem h⟩
      have := hd x (List.mem_of_getElem? hx)
      have h1 : ¬ atA las i < -256 := by unfold atA; rw [hx]; simp only; omega
      simp [h1]
    · simp [h]
  have e2 : enA las (-256) 0 = fun _ => false := by
    funext i
    unfold enA
    by_cases h : i < las.length
    · obtain ⟨x, hx⟩ : ∃ x, las[i]? = some x := ⟨_, List.getElem?_eq_getElem h⟩
      have := hd x (List.mem_of_getElem? hx)
      have h1 : ¬ ltA las i < -256 := by unfold ltA; rw [hx]; simp only; omega
      simp [h1]
    · simp [h]
  rw [e1, e2]; exact run_new K las
theorem run_begin {t : Int} {k : Nat} {x : La} (h : RunOk K las s ids (bgA las t k) (enA las t 0)) (h8 : las.length ≤ 8) (hx : las[k]? = some x) (ht : t = 8 * (k : Int) - x.ahead) :
    s.errB (k : Int) = 0 ∧ RunOk K las (s.begin_ (k : Int) x.kind x.key) (upd ids k s.calls.length) (bgA las t (k + 1)) (enA las t 0) := by
  have hk := (List.getElem?_eq_some_iff.1 hx).1
  have ha : atA las k = t := by unfold atA; rw [hx]; exact ht.symm
  have := h.begins h8 hx (bgA_now ha) (fun j hj => by
    unfold enA at hj
    simp only [Bool.and_eq_true, Bool.or_eq_true, decide_eq_true_eq] at hj
    rw [ha]
    rcases hj.2 with h1 | h1
    · exact h1
    · omega)
  rw [bgA_put hk ha] at this
  exact this
theorem run_pass {t : Int} {k : Nat} {x : La} {en : Nat → Bool} (h : RunOk K las s ids (bgA las t k) en) (hx : las[k]? = some x) (ht : t ≠ 8 * (k : Int) - x.ahead) : RunOk K las s ids (bgA las t (k + 1)) en := by
  rw [bgA_skip (by unfold atA; rw [hx]; exact fun e => ht e.symm)]; exact h
theorem run_end {t : Int} {k : Nat} {x : La} (h : RunOk K las s ids (bgA las (t + 1) 0) (enA las t k)) (h8 : las.length ≤ 8) (hd : Dur las) (hx : las[k]? = some x) (ht : t = 8 * (k : Int) + x.later) :
    s.errE (k : Int) = 0 ∧ RunOk K las (s.end_ (k : Int) (rrA K las k x).code (rrA K las k x).ok (rrA K las k x).val) ids (bgA las (t + 1) 0) (enA las t (k + 1)) := by
  have hk := (List.getElem?_eq_some_iff.1 hx).1
  have hl : ltA las k = t := by unfold ltA; rw [hx]; exact ht.symm
  have hdx := hd x (List.mem_of_getElem? hx)
  have hb : bgA las (t + 1) 0 k = true := by
    have h1 : atA las k < t + 1 := by unfold atA; rw [hx]; simp only; omega
    unfold bgA; simp [hk, h1]
  have := h.ends h8 hx hb (enA_now hl)
  rw [enA_put hk hl] at this
  exact this
theorem run_wait {t : Int} {k : Nat} {x : La} {bg : Nat → Bool} (h : RunOk K las s ids bg (enA las t k)) (hx : las[k]? = some x) (ht : t ≠ 8 * (k : Int) + x.later) : RunOk K las s ids bg (enA las t (k + 1)) := by
  rw [enA_skip (by unfold ltA; rw [hx]; exact fun e => ht e.symm)]; exact h
theorem run_over (h : RunOk K las s ids (bgA las 321 0) (enA las 321 0)) (h8 : las.length ≤ 8) (hd : Dur las) (hK : 1 ≤ K ∧ K ≤ 4) (hm : ∀ x ∈ las, may K x.op = true) : RunAll K las s ids := by
  refine ⟨⟨_, _, h, fun i hi => ?_, fun i hi => ?_⟩, hK, hm, fun x hx => ⟨(hd x hx).1, (hd x hx).2.2.1⟩⟩
  · obtain ⟨x, hx⟩ : ∃ x, las[i]? = some x := ⟨_, List.getElem?_eq_getElem hi⟩
    have := hd x (List.mem_of_getElem? hx)
    have h1 : atA las i < 321 := by unfold atA; rw [hx]; simp only; omega
    unfold bgA; simp [hi, h1]
  · obtain ⟨x, hx⟩ : ∃ x, las[i]? = some x := ⟨_, List.getElem?_eq_getElem hi⟩
    have := hd x (List.mem_of_getElem? hx)
    have h1 : ltA las i < 321 := by unfold ltA; rw [hx]; simp only; omega
    unfold enA; simp [hi, h1]
theorem RunOk.sizes {bg en : Nat → Bool} (h : RunOk K las s ids bg en) (h8 : las.length ≤ 8) : s.calls.length ≤ 8 ∧ s.evs.length ≤ 16 := by
  have h1 : ∀ (f : Nat → Bool) (k : Nat), cntB f k ≤ k := fun f k => by
    induction k with
    | zero => exact Nat.le_refl _
    | succ k ih => simp only [cntB]; split <;> omega
  have h2 := h.cnt
  have h3 := h1 bg las.length
  have h4 := h.good.count
  omega
end
theorem row_la2 {l : List Value} (h : Rowed [some .i64, some .i64, some .i64, some .u8, some .u8] l) : ∃ x : La, l = x.cells ∧ 0 ≤ x.ahead ∧ x.ahead ≤ 255 ∧ 0 ≤ x.later ∧ x.later ≤ 255 := by
  obtain ⟨_, _, rfl, ⟨a, rfl, _⟩, h1⟩ := h.cons_inv
  obtain ⟨_, _, rfl, ⟨b, rfl, _⟩, h2⟩ := h1.cons_inv
  obtain ⟨_, _, rfl, ⟨c, rfl, _⟩, h3⟩ := h2.cons_inv
  obtain ⟨_, _, rfl, ⟨d, rfl, wd⟩, h4⟩ := h3.cons_inv
  obtain ⟨_, _, rfl, ⟨e, rfl, we⟩, h5⟩ := h4.cons_inv
  obtain rfl := h5.nil_inv
  have h6 : 0 ≤ d ∧ d ≤ 255 := by simp [Lit.wf, IntKind.min, IntKind.max, IntKind.signed, IntKind.bits] at wd; omega
  have h7 : 0 ≤ e ∧ e ≤ 255 := by simp [Lit.wf, IntKind.min, IntKind.max, IntKind.signed, IntKind.bits] at we; omega
  exact ⟨⟨a, b, c, d, e⟩, rfl, h6.1, h6.2, h7.1, h7.2⟩
theorem rows_las2 : ∀ rows : List (List Value), (∀ r ∈ rows, Rowed [some .i64, some .i64, some .i64, some .u8, some .u8] r) → ∃ ls : List La, (ls.length = rows.length ∧ Dur ls) ∧ rows.flatten = ls.flatMap La.cells
  | [], _ => ⟨[], ⟨rfl, fun _ h => by cases h⟩, rfl⟩
  | r :: rows, h => by
    obtain ⟨e, rfl, hd⟩ := row_la2 (h r (List.mem_cons_self ..))
    obtain ⟨ls, ⟨h1, h2⟩, h3⟩ := rows_las2 rows (fun x hx => h x (List.mem_cons_of_mem _ hx))
    refine ⟨e :: ls, ⟨by simp [h1], fun x hx => ?_⟩, by simp [h3]⟩
    rcases List.mem_cons.1 hx with rfl | hx
    · exact hd
    · exact h2 x hx
end Go.Proofs.YtboommppikfgnaaDoor
