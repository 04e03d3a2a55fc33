/- Plain laws: what the document says of events (pending, error, calls), and that a history agrees.
   Conditions: none. -/
import Derived.Test.YtboommppikfgnaaDoorHInv
namespace Go.Proofs.YtboommppikfgnaaDoor
open Go Go.RowKit

/-- is a thread's last event of the first k a beginning? -/
def PdTo (evs : List Ev) : Nat → Int → Bool
  | 0, _ => false
  | k + 1, t => match evs[k]? with
    | some e => if e.th = t then !e.ends else PdTo evs k t
    | none => PdTo evs k t
def Pd (evs : List Ev) (t : Int) : Bool := PdTo evs evs.length t
def Er (evs : List Ev) (e : Ev) : Int :=
  if e.th < 0 ∨ 7 < e.th then 2 else if e.ends = false ∧ Pd evs e.th = true then 1 else if e.ends = true ∧ Pd evs e.th = false then 5 else 0
def bareE (e : Ev) : Ev := if e.ends then evE e.th e.code e.ok e.val else evB e.th e.kind e.key

theorem PdTo_app (evs : List Ev) (x : Ev) (t : Int) : ∀ k, k ≤ evs.length → PdTo (evs ++ [x]) k t = PdTo evs k t
  | 0, _ => rfl
  | k + 1, h => by
    simp only [PdTo]
    rw [List.getElem?_append_left (by omega), PdTo_app evs x t k (by omega)]
theorem Pd_snoc (evs : List Ev) (x : Ev) (t : Int) : Pd (evs ++ [x]) t = if x.th = t then !x.ends else Pd evs t := by
  simp only [Pd, List.length_append, List.length_cons, List.length_nil, PdTo]
  rw [List.getElem?_append_right (Nat.le_refl _)]
  simp only [Nat.sub_self, List.getElem?_cons_zero]
  rw [PdTo_app evs x t _ (Nat.le_refl _)]

theorem Pd_same (evs : List Ev) (x : Ev) (t : Int) (h : x.th = t) : Pd (evs ++ [x]) t = !x.ends := by rw [Pd_snoc, if_pos h]
theorem Pd_other (evs : List Ev) (x : Ev) (t : Int) (h : ¬ x.th = t) : Pd (evs ++ [x]) t = Pd evs t := by rw [Pd_snoc, if_neg h]

/-- a call, as the document finds it -/
structure RC where
  th : Int
  began : Int
  ended : Int
  kind : Int
  key : Int
  code : Int
  ok : Bool
  val : Int
def RC.cells (e : RC) : List Value := [.int .i64 e.th, .int .i64 e.began, .int .i64 e.ended, .int .i64 e.kind, .int .i64 e.key, .int .i64 e.code, .bool e.ok, .int .i64 e.val]
theorem RC.cells_len (e : RC) : e.cells.length = 8 := rfl
theorem RC.cells_one (e : RC) : ∀ u ∈ e.cells, u.oneCell' = true := by
  intro u hu
  simp only [RC.cells, List.mem_cons, List.not_mem_nil, or_false] at hu
  rcases hu with rfl | rfl | rfl | rfl | rfl | rfl | rfl | rfl <;> rfl
theorem rc_cells {w : World} {B n : Nat} {A : Option Addr} {cs : List RC} (h : Sl w B 8 A n (cs.flatMap RC.cells)) {k : Nat} {c : RC} (hk : k < n) (he : cs[k]? = some c) :
    w.cell? ⟨ablk A, aoff A + k * 8, none⟩ = some (.int .i64 c.th) ∧ w.cell? ⟨ablk A, aoff A + k * 8 + 1, none⟩ = some (.int .i64 c.began) ∧ w.cell? ⟨ablk A, aoff A + k * 8 + 2, none⟩ = some (.int .i64 c.ended) ∧
      w.cell? ⟨ablk A, aoff A + k * 8 + 3, none⟩ = some (.int .i64 c.kind) ∧ w.cell? ⟨ablk A, aoff A + k * 8 + 4, none⟩ = some (.int .i64 c.key) ∧ w.cell? ⟨ablk A, aoff A + k * 8 + 5, none⟩ = some (.int .i64 c.code) ∧
      w.cell? ⟨ablk A, aoff A + k * 8 + 6, none⟩ = some (.bool c.ok) ∧ w.cell? ⟨ablk A, aoff A + k * 8 + 7, none⟩ = some (.int .i64 c.val) := by
  have key : ∀ i, i < 8 → w.cell? ⟨ablk A, aoff A + k * 8 + i, none⟩ = c.cells[i]? := fun i hi => by
    rw [h.at_ hk hi, flat_at RC.cells 8 RC.cells_len cs k i c he hi]
  exact ⟨key 0 (by omega), key 1 (by omega), key 2 (by omega), key 3 (by omega), key 4 (by omega), key 5 (by omega), key 6 (by omega), key 7 (by omega)⟩

def RC.start (e : Ev) (i : Nat) : RC := ⟨e.th, i, -1, e.kind, e.key, 0, false, 0⟩
/-- one event more is looked at: number j -/
def RC.see (c : RC) (evs : List Ev) (j : Nat) : RC :=
  if c.ended < 0 then (match evs[j]? with
    | some e => if e.th = c.th then { c with ended := j, code := e.code, ok := e.ok, val := e.val } else c
    | none => c) else c
/-- events from number i on are looked at, m of them -/
def RC.sees (c : RC) (evs : List Ev) (i : Nat) : Nat → RC
  | 0 => c
  | m + 1 => (c.sees evs i m).see evs (i + m)
def rcall (evs : List Ev) (e : Ev) (i : Nat) : RC := (RC.start e i).sees evs (i + 1) (evs.length - (i + 1))
def rcallsTo (evs : List Ev) : Nat → List RC
  | 0 => []
  | k + 1 => rcallsTo evs k ++ (match evs[k]? with
    | some e => if e.ends then [] else [rcall evs e k]
    | none => [])
def rcalls (evs : List Ev) : List RC := rcallsTo evs evs.length

def HC.rc (c : HC) : RC := ⟨c.th, c.began, c.ended, c.kind, c.key, c.code, c.ok, c.val⟩

theorem RC.sees_app (c : RC) (evs : List Ev) (x : Ev) (i : Nat) : ∀ m, i + m ≤ evs.length → c.sees (evs ++ [x]) i m = c.sees evs i m
  | 0, _ => rfl
  | m + 1, h => by
    simp only [RC.sees]
    rw [RC.sees_app c evs x i m (by omega)]
    unfold RC.see
    rw [List.getElem?_append_left (by omega)]
def RC.last (c : RC) (n : Nat) (x : Ev) : RC := if c.ended < 0 ∧ x.th = c.th then { c with ended := n, code := x.code, ok := x.ok, val := x.val } else c
theorem RC.last_no (c : RC) (n : Nat) (x : Ev) (h : c.ended < 0 → ¬ x.th = c.th) : c.last n x = c := by unfold RC.last; rw [if_neg (fun h' => h h'.1 h'.2)]
theorem RC.last_yes (c : RC) (n : Nat) (x : Ev) (h : c.ended < 0) (h' : x.th = c.th) : c.last n x = { c with ended := n, code := x.code, ok := x.ok, val := x.val } := by unfold RC.last; rw [if_pos ⟨h, h'⟩]
theorem rcall_snoc (evs : List Ev) (x e : Ev) (i : Nat) (hi : i < evs.length) : rcall (evs ++ [x]) e i = (rcall evs e i).last evs.length x := by
  unfold rcall
  have h1 : (evs ++ [x]).length - (i + 1) = (evs.length - (i + 1)) + 1 := by simp; omega
  rw [h1]
  simp only [RC.sees]
  rw [RC.sees_app _ evs x (i + 1) _ (by omega)]
  unfold RC.see RC.last
  have h2 : i + 1 + (evs.length - (i + 1)) = evs.length := by omega
  rw [h2, List.getElem?_append_right (Nat.le_refl _)]
  simp only [Nat.sub_self, List.getElem?_cons_zero]
  split
  · split
    · rename_i h3 h4; rw [if_pos ⟨h3, h4⟩]
    · rename_i h3 h4; rw [if_neg (fun h => h4 h.2)]
  · rename_i h3; rw [if_neg (fun h => h3 h.1)]
theorem rcallsTo_snoc (evs : List Ev) (x : Ev) : ∀ k, k ≤ evs.length → rcallsTo (evs ++ [x]) k = (rcallsTo evs k).map (fun c => c.last evs.length x)
  | 0, _ => rfl
  | k + 1, h => by
    simp only [rcallsTo]
    rw [rcallsTo_snoc evs x k (by omega), List.getElem?_append_left (by omega), List.map_append]
    congr 1
    split
    · split
      · rfl
      · simp [rcall_snoc evs x _ k (by omega)]
    · rfl
theorem rcalls_snoc (evs : List Ev) (x : Ev) : rcalls (evs ++ [x]) = (rcalls evs).map (fun c => c.last evs.length x) ++ (if x.ends then [] else [RC.start x evs.length]) := by
  unfold rcalls
  simp only [List.length_append, List.length_cons, List.length_nil, rcallsTo]
  rw [rcallsTo_snoc evs x _ (Nat.le_refl _), List.getElem?_append_right (Nat.le_refl _)]
  simp only [Nat.sub_self, List.getElem?_cons_zero]
  congr 1
  split
  · rfl
  · unfold rcall; simp [RC.sees]

/-- a history agrees with the document -/
structure HS.Ref (s : HS) : Prop where
  good : s.Good
  pd : ∀ t, s.pend t = Pd s.evs t
  rc : s.calls.map HC.rc = rcalls s.evs

theorem HS.ref_new : HS.new.Ref := ⟨HS.good_new, fun t => by simp [HS.new, HS.pend, Pd, PdTo], rfl⟩

theorem HS.ref_doB {s : HS} (r : s.Ref) (t : Nat) (kind key : Int) (ht : t < 8) (hno : ¬ 0 < s.now t) : (s.doB t kind key).Ref := by
  have hlo := r.good.wf.lo t
  refine ⟨HS.good_doB r.good t kind key ht hno, fun u => ?_, ?_⟩
  · have h1 := r.pd u
    simp only [HS.doB]
    by_cases hu : (t : Int) = u
    · rw [Pd_same _ _ _ (by exact hu)]
      subst hu
      simp only [HS.pend, Int.toNat_natCast, if_true, evB]
      simp; omega
    · rw [Pd_other _ _ _ (by exact hu), ← h1]
      simp only [HS.pend]
      by_cases h0 : 0 ≤ u
      · have : u.toNat ≠ t := by omega
        simp [this]
      · have : decide (0 ≤ u) = false := by simpa using h0
        simp [this]
  · simp only [HS.doB]
    rw [List.map_append, rcalls_snoc, r.rc]
    congr 1
    · rw [← r.rc, List.map_map]
      apply List.map_congr_left
      intro c hc
      obtain ⟨i, hi⟩ := List.mem_iff_getElem?.1 hc
      simp only [Function.comp]
      rw [RC.last_no]
      intro h h'
      have hp := (r.good.pend i c hi).1 h
      have hr := r.good.rng i c hi
      have h'' : (t : Int) = c.th := h'
      rw [← h'', Int.toNat_natCast] at hp
      omega
theorem HS.ref_doE {s : HS} (r : s.Ref) (t : Nat) (code : Int) (ok : Bool) (val : Int) (_ : t < 8) (hno : 0 < s.now t) : (s.doE t code ok val).Ref := by
  obtain ⟨c0, hc0, ht0⟩ := r.good.own t hno
  refine ⟨HS.good_doE r.good t code ok val hno, fun u => ?_, ?_⟩
  · have h1 := r.pd u
    simp only [HS.doE]
    by_cases hu : (t : Int) = u
    · rw [Pd_same _ _ _ (by exact hu)]
      subst hu
      simp [HS.pend, evE]
    · rw [Pd_other _ _ _ (by exact hu), ← h1]
      simp only [HS.pend]
      by_cases h0 : 0 ≤ u
      · have : u.toNat ≠ t := by omega
        simp [this]
      · have : decide (0 ≤ u) = false := by simpa using h0
        simp [this]
  · simp only [HS.doE]
    rw [rcalls_snoc, ← r.rc, List.map_map]
    have e0 : (if (evE (t : Int) code ok val).ends = true then [] else [RC.start (evE (t : Int) code ok val) s.evs.length]) = [] := rfl
    rw [e0, List.append_nil]
    apply List.ext_getElem?
    intro i
    rw [List.getElem?_map, List.getElem?_map, List.getElem?_modify]
    cases hi : s.calls[i]? with
    | none => simp
    | some c =>
      have hp := r.good.pend i c hi
      have hr := r.good.rng i c hi
      simp only [Option.map_some, Function.comp]
      by_cases hik : (s.now t - 1).toNat = i
      · rw [hik] at hc0
        rw [hi] at hc0
        injection hc0 with hc0
        subst hc0
        rw [RC.last_yes _ _ _ (hp.2 (by rw [ht0, Int.toNat_natCast]; omega)) (by exact ht0.symm)]
        simp [hik, HC.stop, HC.rc, evE]
      · rw [RC.last_no]
        · simp only [if_neg hik]; rfl
        · intro h h'
          have h2 := hp.1 h
          have h'' : (t : Int) = c.th := h'
          rw [← h'', Int.toNat_natCast] at h2
          omega

theorem HS.ref_err {s : HS} (r : s.Ref) (e : Ev) : Er s.evs e = if e.ends then s.errE e.th else s.errB e.th := by
  unfold Er HS.errE HS.errB
  rw [← r.pd]
  by_cases h : e.th < 0 ∨ 7 < e.th
  · rw [if_pos h]
    have h' : e.th < 0 ∨ 8 ≤ e.th := by omega
    simp only [if_pos h']
    split <;> rfl
  · rw [if_neg h]
    have h' : ¬ (e.th < 0 ∨ 8 ≤ e.th) := by omega
    simp only [if_neg h']
    have h1 : decide (0 ≤ e.th) = true := by simp; omega
    have h2 : decide (e.th < 8) = true := by simp; omega
    simp only [HS.pend, h1, h2, Bool.and_self, Bool.true_and, decide_eq_true_eq, decide_eq_false_iff_not]
    cases e.ends <;> by_cases h3 : 0 < s.now e.th.toNat <;> simp [h3]

/-- a step: the event is taken just if the document says so -/
theorem HS.ref_step {s : HS} (r : s.Ref) (e : Ev) : (s.step e).Ref ∧ (s.step e).evs = if Er s.evs e = 0 then s.evs ++ [bareE e] else s.evs := by
  rw [HS.ref_err r e]
  unfold HS.step bareE
  cases he : e.ends
  · simp only [Bool.false_eq_true, if_false]
    unfold HS.begin_
    by_cases h : s.errB e.th = 0
    · rw [if_pos h, if_pos h]
      unfold HS.errB at h
      split at h
      · omega
      · split at h
        · omega
        · rename_i h1 h2
          refine ⟨HS.ref_doB r _ _ _ (by omega) h2, ?_⟩
          simp only [HS.doB]
          rw [Int.toNat_of_nonneg (by omega)]
    · rw [if_neg h, if_neg h]
      exact ⟨r, rfl⟩
  · simp only [if_true]
    unfold HS.end_
    by_cases h : s.errE e.th = 0
    · rw [if_pos h, if_pos h]
      unfold HS.errE at h
      split at h
      · omega
      · split at h
        · rename_i h1 h2
          refine ⟨HS.ref_doE r _ _ _ _ (by omega) h2, ?_⟩
          simp only [HS.doE]
          rw [Int.toNat_of_nonneg (by omega)]
        · omega
    · rw [if_neg h, if_neg h]
      exact ⟨r, rfl⟩
theorem HS.ref_foldl (l : List Ev) : ∀ s : HS, s.Ref → (l.foldl HS.step s).Ref := by
  induction l with
  | nil => intro s r; exact r
  | cons e l ih => intro s r; exact ih _ (HS.ref_step r e).1
theorem HS.ref_run (l : List Ev) : (HS.run l).Ref := HS.ref_foldl l _ HS.ref_new
end Go.Proofs.YtboommppikfgnaaDoor
