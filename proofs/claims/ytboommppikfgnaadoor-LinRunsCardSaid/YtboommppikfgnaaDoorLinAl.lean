/- Plain law of LinAlone: laps and what they are told; rows of laps and of results.
   Conditions: none. -/
import Derived.Test.YtboommppikfgnaaDoorLinLaps
import Derived.Test.YtboommppikfgnaaDoorSRef3
import Derived.Test.YtboommppikfgnaaDoorOpen
namespace Go.Proofs.YtboommppikfgnaaDoor
open Go Go.RowKit

structure La where
  kind : Int
  key : Int
  th : Int
  ahead : Int
  later : Int
def La.cells (x : La) : List Value := [.int .i64 x.kind, .int .i64 x.key, .int .i64 x.th, .int .u8 x.ahead, .int .u8 x.later]
theorem La.cells_len (x : La) : x.cells.length = 5 := rfl
theorem la_cells {w : World} {B n : Nat} {A : Option Addr} {ls : List La} (h : Sl w B 5 A n (ls.flatMap La.cells)) {k : Nat} {x : La} (hk : k < n) (hx : ls[k]? = some x) :
    w.cell? ⟨ablk A, aoff A + k * 5, none⟩ = some (.int .i64 x.kind) ∧ w.cell? ⟨ablk A, aoff A + k * 5 + 1, none⟩ = some (.int .i64 x.key) ∧ w.cell? ⟨ablk A, aoff A + k * 5 + 2, none⟩ = some (.int .i64 x.th) ∧
      w.cell? ⟨ablk A, aoff A + k * 5 + 3, none⟩ = some (.int .u8 x.ahead) ∧ w.cell? ⟨ablk A, aoff A + k * 5 + 4, none⟩ = some (.int .u8 x.later) := by
  have key : ∀ i, i < 5 → w.cell? ⟨ablk A, aoff A + k * 5 + i, none⟩ = x.cells[i]? := fun i hi => by
    rw [h.at_ hk hi, flat_at La.cells 5 La.cells_len ls k i x hx hi]
  exact ⟨key 0 (by omega), key 1 (by omega), key 2 (by omega), key 3 (by omega), key 4 (by omega)⟩
theorem laSz : (Tryd.prog.info? 45).map (·.size) = some 5 := by kernel_rfl
theorem resSz : (Tryd.prog.info? 50).map (·.size) = some 3 := by kernel_rfl
def lpOf (x : La) (r : Rsl) : Lp := ⟨bits .and .i64 x.th 7, x.kind, x.key, r.code, r.ok, r.val⟩
def lpsL (ls : List La) (rs : List Rsl) : List Lp := List.zipWith lpOf ls rs
theorem and7 (x : Int) : 0 ≤ bits .and .i64 x 7 ∧ bits .and .i64 x 7 < 8 := by
  have h1 : (BitVec.ofInt 64 x &&& BitVec.ofInt 64 7).toNat ≤ 7 := by
    rw [BitVec.toNat_and]
    exact Nat.le_trans Nat.and_le_right (by decide)
  have h2 : bits .and .i64 x 7 = IntKind.i64.wrap ((BitVec.ofInt 64 x &&& BitVec.ofInt 64 7).toNat : Int) := rfl
  rw [h2]
  generalize (BitVec.ofInt 64 x &&& BitVec.ofInt 64 7).toNat = q at *
  have h3 : IntKind.i64.wrap (q : Int) = (q : Int) := by rw [IntKind.wrap_i64]; omega
  rw [h3]; omega
def eqR (r : Rsl) (x : Lp) : Bool := (r.code == x.code) && (r.ok == x.ok) && (r.val == x.val)
def stStep (sh : Int) (a : List Opn × Bool) (x : Lp) : List Opn × Bool := if x.code = 0 then (a.1 ++ [⟨x.kind, x.key⟩], a.2 && eqR (refRes sh a.1 ⟨x.kind, x.key⟩) x) else a
def stA (sh : Int) (l : List Lp) : List Opn × Bool := l.foldl (stStep sh) ([], true)
theorem stA_snoc (sh : Int) (l : List Lp) (x : Lp) : stA sh (l ++ [x]) = stStep sh (stA sh l) x := by unfold stA; rw [List.foldl_append]; rfl
theorem stA_len (sh : Int) : ∀ (l : List Lp) (a : List Opn × Bool), (l.foldl (stStep sh) a).1.length ≤ a.1.length + l.length
  | [], _ => by simp
  | x :: l, a => by
    have := stA_len sh l (stStep sh a x)
    rw [List.foldl_cons, List.length_cons]
    have h1 : (stStep sh a x).1.length ≤ a.1.length + 1 := by unfold stStep; split <;> simp
    omega
theorem alone_gen (sh : Int) (hs : 1 ≤ sh ∧ sh ≤ 4) : ∀ (l : List Lp) (cs : List HC), cs.length = l.length →
    (∀ (i : Nat) (c : HC) (x : Lp), cs[i]? = some c → l[i]? = some x → c.code = x.code ∧ c.kind = x.kind ∧ c.key = x.key ∧ c.ok = x.ok ∧ c.val = x.val ∧ 0 ≤ c.ended) →
    (∀ x ∈ l, may sh ⟨x.kind, x.key⟩ = true) → ∀ (did : List Opn) (r : Bool), allMay sh did → (r && (goSeq sh cs (itemsOf sh did)).isSome) = (l.foldl (stStep sh) (did, r)).2
  | [], [], _, _, _, did, r, _ => by simp [goSeq]
  | [], c :: cs, h, _, _, _, _, _ => by simp at h
  | x :: l, [], h, _, _, _, _, _ => by simp at h
  | x :: l, c :: cs, hlen, hcs, hmay, did, r, hdid => by
    obtain ⟨h1, h2, h3, h4, h5, h6⟩ := hcs 0 c x rfl rfl
    have ih := alone_gen sh hs l cs (by simpa using hlen) (fun i c x hc hx => hcs (i + 1) c x (by simpa using hc) (by simpa using hx)) (fun y hy => hmay y (List.mem_cons_of_mem _ hy))
    have hmx : mayP sh x.kind x.key := of_decide_eq_true (hmay x (List.mem_cons_self ..))
    rw [List.foldl_cons]
    simp only [goSeq]
    have hstx : stStep sh (did, r) x = if x.code = 0 then (did ++ [⟨x.kind, x.key⟩], r && eqR (refRes sh did ⟨x.kind, x.key⟩) x) else (did, r) := rfl
    rw [hstx]
    by_cases h0 : x.code = 0
    · rw [if_pos (h1.trans h0), if_pos h0]
      have hop : c.op = ⟨x.kind, x.key⟩ := by unfold HC.op; rw [h2, h3]
      have htold : c.told (spTell (itemsOf sh did) c.op) = eqR (refRes sh did ⟨x.kind, x.key⟩) x := by
        unfold HC.told eqR
        have : decide (c.ended < 0) = false := by simp; omega
        rw [this, hop, tell_ref sh did ⟨x.kind, x.key⟩ hs hdid hmx, h1, h4, h5]
        rfl
      have hdid' : allMay sh (did ++ [⟨x.kind, x.key⟩]) := fun o ho => by
        rcases List.mem_append.1 ho with ho | ho
        · exact hdid o ho
        · obtain rfl : o = ⟨x.kind, x.key⟩ := by simpa using ho
          exact hmx
      have ih2 := ih (did ++ [⟨x.kind, x.key⟩]) (r && eqR (refRes sh did ⟨x.kind, x.key⟩) x) hdid'
      rw [← ih2, itemsOf_snoc, htold, hop]
      cases eqR (refRes sh did ⟨x.kind, x.key⟩) x
      · simp
      · simp
    · rw [if_neg (fun e => h0 (h1.symm.trans e)), if_neg h0]
      exact ih did r hdid
theorem alone_plain {sh : Int} (hs : 1 ≤ sh ∧ sh ≤ 4) {l : List Lp} {s : HS} (h : LapsOk l s) (hm : ∀ x ∈ l, may sh ⟨x.kind, x.key⟩ = true) : (findL sh s.calls 0 []).isSome = (stA sh l).2 := by
  rw [(laps_seq h sh hm).find0]
  have := alone_gen sh hs l s.calls h.len (fun i c x hc hx => by
    rw [h.calls, hx] at hc
    simp only [Option.map_some] at hc
    injection hc with hc
    subst hc
    exact ⟨rfl, rfl, rfl, rfl, rfl, by simp only [lapC]; omega⟩) hm [] true (fun o ho => by cases ho)
  rw [Bool.true_and] at this
  exact this
theorem row_la {l : List Value} (h : Rowed [some .i64, some .i64, some .i64, some .u8, some .u8] l) : ∃ x : La, l = x.cells := by
  obtain ⟨_, _, rfl, ⟨a, rfl, _⟩, h1⟩ := h.cons_inv
  obtain ⟨_, _, rfl, ⟨b, rfl, _⟩, h2⟩ := h1.cons_inv
  obtain ⟨_, _, rfl, ⟨c, rfl, _⟩, h3⟩ := h2.cons_inv
  obtain ⟨_, _, rfl, ⟨d, rfl, _⟩, h4⟩ := h3.cons_inv
  obtain ⟨_, _, rfl, ⟨e, rfl, _⟩, h5⟩ := h4.cons_inv
  obtain rfl := h5.nil_inv
  exact ⟨⟨a, b, c, d, e⟩, rfl⟩
theorem rows_las : ∀ rows : List (List Value), (∀ r ∈ rows, Rowed [some .i64, some .i64, some .i64, some .u8, some .u8] r) → ∃ ls : List La, ls.length = rows.length ∧ rows.flatten = ls.flatMap La.cells
  | [], _ => ⟨[], rfl, rfl⟩
  | r :: rows, h => by
    obtain ⟨e, rfl⟩ := row_la (h r (List.mem_cons_self ..))
    obtain ⟨ls, h1, h2⟩ := rows_las rows (fun x hx => h x (List.mem_cons_of_mem _ hx))
    exact ⟨e :: ls, by simp [h1], by simp [h2]⟩
theorem row_rs {l : List Value} (h : Rowed [some .i64, none, some .i64] l) : ∃ x : Rsl, l = x.cells := by
  obtain ⟨_, _, rfl, ⟨a, rfl, _⟩, h1⟩ := h.cons_inv
  obtain ⟨_, _, rfl, ⟨b, rfl⟩, h2⟩ := h1.cons_inv
  obtain ⟨_, _, rfl, ⟨c, rfl, _⟩, h3⟩ := h2.cons_inv
  obtain rfl := h3.nil_inv
  exact ⟨⟨a, b, c⟩, rfl⟩
theorem rows_rss : ∀ rows : List (List Value), (∀ r ∈ rows, Rowed [some .i64, none, some .i64] r) → ∃ ls : List Rsl, ls.length = rows.length ∧ rows.flatten = ls.flatMap Rsl.cells
  | [], _ => ⟨[], rfl, rfl⟩
  | r :: rows, h => by
    obtain ⟨e, rfl⟩ := row_rs (h r (List.mem_cons_self ..))
    obtain ⟨ls, h1, h2⟩ := rows_rss rows (fun x hx => h x (List.mem_cons_of_mem _ hx))
    exact ⟨e :: ls, by simp [h1], by simp [h2]⟩
end Go.Proofs.YtboommppikfgnaaDoor
