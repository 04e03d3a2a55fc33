/- Plain model of a history: events, calls, and for each thread the number of its pending call and one.
   Conditions: none. -/
import Derived.Test.YtboommppikfgnaaDoorMem
namespace Go.Proofs.YtboommppikfgnaaDoor
open Go Go.RowKit

/-- an event -/
structure Ev where
  th : Int
  ends : Bool
  kind : Int
  key : Int
  code : Int
  ok : Bool
  val : Int
def Ev.cells (e : Ev) : List Value := [.int .i64 e.th, .bool e.ends, .int .i64 e.kind, .int .i64 e.key, .int .i64 e.code, .bool e.ok, .int .i64 e.val]
theorem Ev.cells_len (e : Ev) : e.cells.length = 7 := rfl
theorem Ev.cells_one (e : Ev) : ∀ u ∈ e.cells, u.oneCell' = true := by
  intro u hu
  simp only [Ev.cells, List.mem_cons, List.not_mem_nil, or_false] at hu
  rcases hu with rfl | rfl | rfl | rfl | rfl | rfl | rfl <;> rfl

/-- the cells of event k of a slice of events -/
theorem ev_cells {w : World} {B n : Nat} {A : Option Addr} {evs : List Ev} (h : Sl w B 7 A n (evs.flatMap Ev.cells)) {k : Nat} {e : Ev} (hk : k < n) (he : evs[k]? = some e) :
    w.cell? ⟨ablk A, aoff A + k * 7, none⟩ = some (.int .i64 e.th) ∧ w.cell? ⟨ablk A, aoff A + k * 7 + 1, none⟩ = some (.bool e.ends) ∧ w.cell? ⟨ablk A, aoff A + k * 7 + 2, none⟩ = some (.int .i64 e.kind) ∧
      w.cell? ⟨ablk A, aoff A + k * 7 + 3, none⟩ = some (.int .i64 e.key) ∧ w.cell? ⟨ablk A, aoff A + k * 7 + 4, none⟩ = some (.int .i64 e.code) ∧ w.cell? ⟨ablk A, aoff A + k * 7 + 5, none⟩ = some (.bool e.ok) ∧
      w.cell? ⟨ablk A, aoff A + k * 7 + 6, none⟩ = some (.int .i64 e.val) := by
  have key : ∀ i, i < 7 → w.cell? ⟨ablk A, aoff A + k * 7 + i, none⟩ = e.cells[i]? := fun i hi => by
    rw [h.at_ hk hi, flat_at Ev.cells 7 Ev.cells_len evs k i e he hi]
  exact ⟨key 0 (by omega), key 1 (by omega), key 2 (by omega), key 3 (by omega), key 4 (by omega), key 5 (by omega), key 6 (by omega)⟩

/-- a call of a history -/
structure HC where
  began : Int
  ended : Int
  id : Int
  th : Int
  kind : Int
  key : Int
  code : Int
  ok : Bool
  val : Int
def HC.cells (e : HC) : List Value := [.int .i64 e.began, .int .i64 e.ended, .int .i64 e.id, .int .i64 e.th, .int .i64 e.kind, .int .i64 e.key, .int .i64 e.code, .bool e.ok, .int .i64 e.val]
theorem HC.cells_len (e : HC) : e.cells.length = 9 := rfl
theorem HC.cells_one (e : HC) : ∀ u ∈ e.cells, u.oneCell' = true := by
  intro u hu
  simp only [HC.cells, List.mem_cons, List.not_mem_nil, or_false] at hu
  rcases hu with rfl | rfl | rfl | rfl | rfl | rfl | rfl | rfl | rfl <;> rfl

/-- the cells of call k of a slice of calls -/
theorem hc_cells {w : World} {B n : Nat} {A : Option Addr} {cs : List HC} (h : Sl w B 9 A n (cs.flatMap HC.cells)) {k : Nat} {c : HC} (hk : k < n) (he : cs[k]? = some c) :
    w.cell? ⟨ablk A, aoff A + k * 9, none⟩ = some (.int .i64 c.began) ∧ w.cell? ⟨ablk A, aoff A + k * 9 + 1, none⟩ = some (.int .i64 c.ended) ∧ w.cell? ⟨ablk A, aoff A + k * 9 + 2, none⟩ = some (.int .i64 c.id) ∧
      w.cell? ⟨ablk A, aoff A + k * 9 + 3, none⟩ = some (.int .i64 c.th) ∧ w.cell? ⟨ablk A, aoff A + k * 9 + 4, none⟩ = some (.int .i64 c.kind) ∧ w.cell? ⟨ablk A, aoff A + k * 9 + 5, none⟩ = some (.int .i64 c.key) ∧
      w.cell? ⟨ablk A, aoff A + k * 9 + 6, none⟩ = some (.int .i64 c.code) ∧ w.cell? ⟨ablk A, aoff A + k * 9 + 7, none⟩ = some (.bool c.ok) ∧ w.cell? ⟨ablk A, aoff A + k * 9 + 8, none⟩ = some (.int .i64 c.val) := by
  have key : ∀ i, i < 9 → w.cell? ⟨ablk A, aoff A + k * 9 + i, none⟩ = c.cells[i]? := fun i hi => by
    rw [h.at_ hk hi, flat_at HC.cells 9 HC.cells_len cs k i c he hi]
  exact ⟨key 0 (by omega), key 1 (by omega), key 2 (by omega), key 3 (by omega), key 4 (by omega), key 5 (by omega), key 6 (by omega), key 7 (by omega), key 8 (by omega)⟩

/-- a history -/
structure HS where
  evs : List Ev
  calls : List HC
  now : Nat → Int
def HS.new : HS := ⟨[], [], fun _ => 0⟩
def evB (t : Int) (kind key : Int) : Ev := ⟨t, false, kind, key, 0, false, 0⟩
def evE (t : Int) (code : Int) (ok : Bool) (val : Int) : Ev := ⟨t, true, 0, 0, code, ok, val⟩
def HS.doB (s : HS) (t : Nat) (kind key : Int) : HS :=
  ⟨s.evs ++ [evB t kind key], s.calls ++ [⟨s.evs.length, -1, s.calls.length, t, kind, key, 0, false, 0⟩], fun u => if u = t then s.calls.length + 1 else s.now u⟩
def HC.stop (c : HC) (n : Int) (code : Int) (ok : Bool) (val : Int) : HC := { c with ended := n, code := code, ok := ok, val := val }
def HS.doE (s : HS) (t : Nat) (code : Int) (ok : Bool) (val : Int) : HS :=
  ⟨s.evs ++ [evE t code ok val], s.calls.modify (s.now t - 1).toNat (fun c => c.stop s.evs.length code ok val), fun u => if u = t then 0 else s.now u⟩
/-- is one pending for a thread -/
def HS.pend (s : HS) (t : Int) : Bool := decide (0 ≤ t) && decide (t < 8) && decide (0 < s.now t.toNat)
def HS.errB (s : HS) (t : Int) : Int := if t < 0 ∨ 8 ≤ t then 2 else if 0 < s.now t.toNat then 1 else 0
def HS.errE (s : HS) (t : Int) : Int := if t < 0 ∨ 8 ≤ t then 2 else if 0 < s.now t.toNat then 0 else 5
def HS.begin_ (s : HS) (t : Int) (kind key : Int) : HS := if s.errB t = 0 then s.doB t.toNat kind key else s
def HS.end_ (s : HS) (t : Int) (code : Int) (ok : Bool) (val : Int) : HS := if s.errE t = 0 then s.doE t.toNat code ok val else s

/-- sizes agree -/
structure HS.wf (s : HS) : Prop where
  lo : ∀ t, 0 ≤ s.now t
  hi : ∀ t, s.now t ≤ s.calls.length
  le : s.calls.length ≤ s.evs.length
theorem HS.wf_new : HS.new.wf := ⟨fun _ => by simp [HS.new], fun _ => by simp [HS.new], by simp [HS.new]⟩
theorem HS.wf_doB {s : HS} (h : s.wf) (t : Nat) (kind key : Int) : (s.doB t kind key).wf := by
  refine ⟨fun u => ?_, fun u => ?_, ?_⟩
  · simp only [HS.doB]; split
    · omega
    · exact h.lo u
  · simp only [HS.doB, List.length_append, List.length_cons, List.length_nil]
    split
    · omega
    · have := h.hi u; omega
  · simp only [HS.doB, List.length_append, List.length_cons, List.length_nil]; have := h.le; omega
theorem HS.wf_doE {s : HS} (h : s.wf) (t : Nat) (code : Int) (ok : Bool) (val : Int) : (s.doE t code ok val).wf := by
  refine ⟨fun u => ?_, fun u => ?_, ?_⟩
  · simp only [HS.doE]; split
    · omega
    · exact h.lo u
  · simp only [HS.doE, List.length_modify]
    split
    · omega
    · exact h.hi u
  · simp only [HS.doE, List.length_modify, List.length_append, List.length_cons, List.length_nil]; have := h.le; omega

/-- four cells of call k are stored -/
theorem hc_store (n code : Int) (ok : Bool) (val : Int) : ∀ (l : List HC) (k : Nat), k < l.length →
    ((((l.flatMap HC.cells).set (k * 9 + 1) (.int .i64 n)).set (k * 9 + 6) (.int .i64 code)).set (k * 9 + 6 + 1) (.bool ok)).set (k * 9 + 6 + 2) (.int .i64 val) = (l.modify k fun c => c.stop n code ok val).flatMap HC.cells
  | [], k, h => by simp at h
  | c :: l, 0, _ => by simp [HC.cells, HC.stop]
  | c :: l, k + 1, h => by
    have ih := hc_store n code ok val l k (by simpa using h)
    have e : ∀ j, (k + 1) * 9 + j = (k * 9 + j) + 9 := fun j => by omega
    have e2 : ∀ j j', (k + 1) * 9 + j + j' = (k * 9 + j + j') + 9 := fun j j' => by omega
    have s : ∀ (xs : List Value) (j : Nat) (v : Value), (HC.cells c ++ xs).set (j + 9) v = HC.cells c ++ xs.set j v := fun xs j v => by simp [HC.cells]
    simp only [List.flatMap_cons, List.modify_succ_cons, e, s, ih]

/-- the struct at block b, its two rows: values v1, v2 -/
structure HRaw (tH tE tC : TypeId) (w : World) (B b : Nat) (v1 v2 : Value) (cs : Array Value) (evs : List Ev) (calls : List HC) (now : Nat → Int) : Prop where
  blk : Blk w b tH cs
  size : cs.size = 10
  c0 : cs[0]? = some v1
  c1 : cs[1]? = some v2
  cn : ∀ t, t < 8 → cs[2 + t]? = some (.int .i64 (now t))
  o1 : w.ownsRow B tE 7 v1 evs.length (evs.flatMap Ev.cells)
  o2 : w.ownsRow B tC 9 v2 calls.length (calls.flatMap HC.cells)
/-- history s lies at block b, all its blocks from B on (types: tH the struct, tE events, tC calls) -/
structure HistAt (tH tE tC : TypeId) (w : World) (B b : Nat) (s : HS) : Prop where
  wf : s.wf
  base : B ≤ b
  at_ : ∃ (v1 v2 : Value) (cs : Array Value), HRaw tH tE tC w B b v1 v2 cs s.evs s.calls s.now

section
variable {tH tE tC : TypeId} {w w' : World} {B b : Nat} {s : HS} {v1 v2 : Value} {cs : Array Value} {evs : List Ev} {calls : List HC} {now : Nat → Int}
theorem HRaw.lt (h : HRaw tH tE tC w B b v1 v2 cs evs calls now) : b < w.heap.size := h.blk.lt
theorem HRaw.kp {B' : Nat} {L : List TypeId} (h : HRaw tH tE tC w B b v1 v2 cs evs calls now) (k : Kp B' L w w') (h1 : tH ∉ L) (h2 : tE ∉ L) (h3 : tC ∉ L) : HRaw tH tE tC w' B b v1 v2 cs evs calls now :=
  ⟨h.blk.kp k h1, h.size, h.c0, h.c1, h.cn, own_kp h.o1 k h2, own_kp h.o2 k h3⟩
theorem HRaw.step (h : HRaw tH tE tC w B b v1 v2 cs evs calls now) (k : Below w.heap.size w w') : HRaw tH tE tC w' B b v1 v2 cs evs calls now :=
  ⟨h.blk.step k, h.size, h.c0, h.c1, h.cn, own_step h.o1 k, own_step h.o2 k⟩
theorem HRaw.mono {B' : Nat} (h : HRaw tH tE tC w B b v1 v2 cs evs calls now) (hB : B' ≤ B) : HRaw tH tE tC w B' b v1 v2 cs evs calls now :=
  ⟨h.blk, h.size, h.c0, h.c1, h.cn, own_mono h.o1 hB, own_mono h.o2 hB⟩
theorem HRaw.alloc (h : HRaw tH tE tC w B b v1 v2 cs evs calls now) (o : Obj) : HRaw tH tE tC (w.alloc o) B b v1 v2 cs evs calls now := h.step ((Below.refl _ _).alloc (Nat.le_refl _) o)
theorem HRaw.drew (h : HRaw tH tE tC w B b v1 v2 cs evs calls now) : HRaw tH tE tC w.drew B b v1 v2 cs evs calls now := h.step ((Below.refl _ _).drew)
theorem HRaw.drewN (h : HRaw tH tE tC w B b v1 v2 cs evs calls now) (n : Nat) : HRaw tH tE tC (w.drewN n) B b v1 v2 cs evs calls now := h.step (below_drewN (Below.refl _ _) n)
theorem HRaw.f0 (h : HRaw tH tE tC w B b v1 v2 cs evs calls now) : w.cell? ⟨b, 0, none⟩ = some v1 := (h.blk.cell 0).trans h.c0
theorem HRaw.f1 (h : HRaw tH tE tC w B b v1 v2 cs evs calls now) : w.cell? ⟨b, 1, none⟩ = some v2 := (h.blk.cell 1).trans h.c1
theorem HRaw.fn (h : HRaw tH tE tC w B b v1 v2 cs evs calls now) {t : Nat} (ht : t < 8) : w.cell? ⟨b, 2 + t, none⟩ = some (.int .i64 (now t)) := (h.blk.cell (2 + t)).trans (h.cn t ht)

/-- the calls have grown, and are stored back -/
theorem HRaw.putCalls (h : HRaw tH tE tC w B b v1 v2 cs evs calls now) (hne : tH ≠ tC) (hne2 : tE ≠ tC) (hne3 : tH ≠ tE) {calls' : List HC} {g cap n' : Nat} (hn' : calls'.length = n')
    (hown : w'.ownsRow B tC 9 (.slice (some ⟨g, 0, none⟩) n' cap) n' (calls'.flatMap HC.cells)) (hg : w.grownBy w' v2.ownBlock) :
    HRaw tH tE tC (w'.setCell ⟨b, 1, none⟩ (.slice (some ⟨g, 0, none⟩) n' cap)) B b v1 (.slice (some ⟨g, 0, none⟩) n' cap) (cs.setIfInBounds 1 (.slice (some ⟨g, 0, none⟩) n' cap)) evs calls' now := by
  subst hn'
  have hb' : Blk w' b tH cs := h.blk.grown hg (own_ne h.o2 h.blk hne.symm)
  have o1' : w'.ownsRow B tE 7 v1 evs.length (evs.flatMap Ev.cells) := h.o1.kept hg (own_ne_own h.o1 h.o2 hne2)
  have hs := h.size
  refine ⟨hb'.set_ 1 _, by simpa using hs, ?_, ?_, fun t ht => ?_, ?_, ?_⟩
  · rw [Array.getElem?_setIfInBounds]; simpa using h.c0
  · rw [Array.getElem?_setIfInBounds]; simp; omega
  · rw [Array.getElem?_setIfInBounds, if_neg (by omega)]; exact h.cn t ht
  · exact own_set o1' (own_ne o1' hb' hne3.symm) _
  · exact own_set hown (own_ne hown hb' hne.symm) _
/-- the events have grown, and are stored back -/
theorem HRaw.putEvs (h : HRaw tH tE tC w B b v1 v2 cs evs calls now) (hne : tH ≠ tC) (hne2 : tE ≠ tC) (hne3 : tH ≠ tE) {evs' : List Ev} {g cap n' : Nat} (hn' : evs'.length = n')
    (hown : w'.ownsRow B tE 7 (.slice (some ⟨g, 0, none⟩) n' cap) n' (evs'.flatMap Ev.cells)) (hg : w.grownBy w' v1.ownBlock) :
    HRaw tH tE tC (w'.setCell ⟨b, 0, none⟩ (.slice (some ⟨g, 0, none⟩) n' cap)) B b (.slice (some ⟨g, 0, none⟩) n' cap) v2 (cs.setIfInBounds 0 (.slice (some ⟨g, 0, none⟩) n' cap)) evs' calls now := by
  subst hn'
  have hb' : Blk w' b tH cs := h.blk.grown hg (own_ne h.o1 h.blk hne3.symm)
  have o2' : w'.ownsRow B tC 9 v2 calls.length (calls.flatMap HC.cells) := h.o2.kept hg (own_ne_own h.o2 h.o1 hne2.symm)
  have hs := h.size
  refine ⟨hb'.set_ 0 _, by simpa using hs, ?_, ?_, fun t ht => ?_, ?_, ?_⟩
  · rw [Array.getElem?_setIfInBounds, if_pos rfl, if_pos (by omega)]
  · rw [Array.getElem?_setIfInBounds]; simpa using h.c1
  · rw [Array.getElem?_setIfInBounds, if_neg (by omega)]; exact h.cn t ht
  · exact own_set hown (own_ne hown hb' hne3.symm) _
  · exact own_set o2' (own_ne o2' hb' hne.symm) _
/-- a call's cells are stored -/
theorem HRaw.putCall {g cap : Nat} (h : HRaw tH tE tC w B b v1 (.slice (some ⟨g, 0, none⟩) calls.length cap) cs evs calls now) (hne : tH ≠ tC) (hne2 : tE ≠ tC) {k : Nat} (hk : k < calls.length) (n code : Int) (ok : Bool) (val : Int) :
    HRaw tH tE tC ((((w.setCell ⟨g, k * 9 + 1, none⟩ (.int .i64 n)).setCell ⟨g, k * 9 + 6, none⟩ (.int .i64 code)).setCell ⟨g, k * 9 + 6 + 1, none⟩ (.bool ok)).setCell ⟨g, k * 9 + 6 + 2, none⟩ (.int .i64 val)) B b v1 (.slice (some ⟨g, 0, none⟩) calls.length cap) cs evs (calls.modify k fun c => c.stop n code ok val) now := by
  have hb : b ≠ g := by
    obtain ⟨_, cs', h'⟩ := own_at h.o2 g rfl
    exact Blk.ne_ h.blk h' hne
  have h1 : v1.ownBlock ≠ some g := by
    obtain ⟨_, cs', h'⟩ := own_at h.o2 g rfl
    exact own_ne h.o1 h' hne2
  refine ⟨(((h.blk.far hb _).far hb _).far hb _).far hb _, h.size, h.c0, h.c1, h.cn, own_set (own_set (own_set (own_set h.o1 h1 _) h1 _) h1 _) h1 _, ?_⟩
  rw [List.length_modify, ← hc_store n code ok val calls k hk]
  exact (((((h.o2.stored _ _).1.stored _ _).1).stored _ _).1.stored _ _).1
/-- a thread's number is stored -/
theorem HRaw.putNow (h : HRaw tH tE tC w B b v1 v2 cs evs calls now) (hne : tH ≠ tC) (hne3 : tH ≠ tE) {t : Nat} (ht : t < 8) (x : Int) :
    HRaw tH tE tC (w.setCell ⟨b, 2 + t, none⟩ (.int .i64 x)) B b v1 v2 (cs.setIfInBounds (2 + t) (.int .i64 x)) evs calls (fun u => if u = t then x else now u) := by
  have hs := h.size
  refine ⟨h.blk.set_ _ _, by simpa using hs, ?_, ?_, fun u hu => ?_, ?_, ?_⟩
  · rw [Array.getElem?_setIfInBounds, if_neg (by omega)]; exact h.c0
  · rw [Array.getElem?_setIfInBounds, if_neg (by omega)]; exact h.c1
  · rw [Array.getElem?_setIfInBounds]
    by_cases hu' : u = t
    · subst hu'; simp; omega
    · rw [if_neg (by omega)]; simp only [hu', if_false]; exact h.cn u hu
  · exact own_set h.o1 (own_ne h.o1 h.blk hne3.symm) _
  · exact own_set h.o2 (own_ne h.o2 h.blk hne.symm) _
theorem Kp.setB {L : List TypeId} {a : World} (k : Kp B L a w) (hb : Blk w b tH cs) (hB : B ≤ b) (hL : tH ∈ L) (i : Nat) (u : Value) : Kp B L a (w.setCell ⟨b, i, none⟩ u) :=
  k.grown (row := some b) (by have := hb.lt; have := k.size; have := hB; omega) ⟨rfl, rfl, rfl, by simp [World.setCell], fun j _ hj => Below.heap_setCell _ _ _ _ (fun e => hj (by simp [e]))⟩
    (fun g hg => by injection hg with hg; subst hg; exact ⟨hB, _, _, _, hb, hL⟩)
theorem Kp.own {L : List TypeId} {a : World} {e : TypeId} {size n base : Nat} {v : Value} {xs : List Value} (k : Kp B L a w) (ho : w.ownsRow base e size v n xs) (hb : B ≤ base) (hB : B ≤ w.heap.size) (hL : e ∈ L) (hg : w.grownBy w' v.ownBlock) : Kp B L a w' :=
  k.grown hB hg fun g hv => by
    obtain ⟨h1, cs, h2⟩ := own_at ho g hv
    exact ⟨Nat.le_trans hb h1, _, _, _, h2, hL⟩

theorem HistAt.lt (h : HistAt tH tE tC w B b s) : b < w.heap.size := by
  obtain ⟨_, _, _, h1⟩ := h.at_
  exact h1.lt
theorem HistAt.kp {B' : Nat} {L : List TypeId} (h : HistAt tH tE tC w B b s) (k : Kp B' L w w') (h1 : tH ∉ L) (h2 : tE ∉ L) (h3 : tC ∉ L) : HistAt tH tE tC w' B b s := by
  obtain ⟨v1, v2, cs, hr⟩ := h.at_
  exact ⟨h.wf, h.base, v1, v2, cs, hr.kp k h1 h2 h3⟩
theorem HistAt.step (h : HistAt tH tE tC w B b s) (k : Below w.heap.size w w') : HistAt tH tE tC w' B b s := by
  obtain ⟨v1, v2, cs, hr⟩ := h.at_
  exact ⟨h.wf, h.base, v1, v2, cs, hr.step k⟩
theorem HistAt.mono {B' : Nat} (h : HistAt tH tE tC w B b s) (hB : B' ≤ B) : HistAt tH tE tC w B' b s := by
  obtain ⟨v1, v2, cs, hr⟩ := h.at_
  exact ⟨h.wf, Nat.le_trans hB h.base, v1, v2, cs, hr.mono hB⟩
theorem HistAt.alloc (h : HistAt tH tE tC w B b s) (o : Obj) : HistAt tH tE tC (w.alloc o) B b s := h.step ((Below.refl _ _).alloc (Nat.le_refl _) o)
theorem HistAt.drew (h : HistAt tH tE tC w B b s) : HistAt tH tE tC w.drew B b s := h.step ((Below.refl _ _).drew)
theorem HistAt.drewN (h : HistAt tH tE tC w B b s) (n : Nat) : HistAt tH tE tC (w.drewN n) B b s := h.step (below_drewN (Below.refl _ _) n)
end
end Go.Proofs.YtboommppikfgnaaDoor
