/- Arguments opened: arrays, structs (nested ones too) of ints and bools by value, slices of such structs.
   Conditions: none (plain law on readings). -/
import Derived.Test.YtboommppikfgnaaDoorMem
import Derived.WalkKit
import Derived.ProofKit
import Derived.OpenShut
import Derived.Below
import Derived.Deep.Slices
namespace Go.Proofs.YtboommppikfgnaaDoor
open Go Go.RowKit Go.ChangeShapes Go.WideShapes Go.ChangeAt Go.Deep

/-- the kinds of a plain type's cells: none is a bool -/
def flatGo (P : Program) (rec_ : TypeId → Option (List (Option IntKind))) : List Field → Nat → Option (List (Option IntKind))
  | [], _ => some []
  | f :: fs, off =>
    match rec_ f.type, decide (f.offset = off) with
    | some a, true => if a.length = P.cellsOf f.type then (match flatGo P rec_ fs (off + a.length) with | some b => some (a ++ b) | none => none) else none
    | _, _ => none
def flatRep (a : List (Option IntKind)) : Nat → List (Option IntKind)
  | 0 => []
  | n + 1 => a ++ flatRep a n
def flatK (P : Program) : Nat → TypeId → Option (List (Option IntKind))
  | 0, _ => none
  | n + 1, t =>
    match P.underlying t with
    | some (.int k) => some [some k]
    | some .bool => some [none]
    | some (.struct fs) => (match flatGo P (flatK P n) fs.toList 0 with | some a => if a.length = P.cellsOf t then some a else none | none => none)
    | some (.array m e) => (match flatK P n e with | some a => if a.length = P.cellsOf e ∧ (flatRep a m).length = P.cellsOf t then some (flatRep a m) else none | none => none)
    | _ => none

def matchK : Option IntKind → Value → Prop
  | none, v => ∃ b, v = .bool b
  | some k, v => ∃ n, v = .int k n ∧ (Lit.int k n).wf = true
def Rowed : List (Option IntKind) → List Value → Prop
  | [], [] => True
  | k :: ks, v :: vs => matchK k v ∧ Rowed ks vs
  | _, _ => False
theorem Rowed.append : ∀ {a b : List (Option IntKind)} {x y : List Value}, Rowed a x → Rowed b y → Rowed (a ++ b) (x ++ y)
  | [], _, [], _, _, h => h
  | _ :: _, _, _ :: _, _, h, h' => ⟨h.1, Rowed.append h.2 h'⟩
theorem Rowed.length : ∀ {a : List (Option IntKind)} {x : List Value}, Rowed a x → x.length = a.length
  | [], [], _ => rfl
  | _ :: _, _ :: _, h => by simp [Rowed.length h.2]
theorem Rowed.one : ∀ {a : List (Option IntKind)} {x : List Value}, Rowed a x → ∀ u ∈ x, u.oneCell' = true
  | [], [], _, u, hu => by cases hu
  | k :: _, v :: _, h, u, hu => by
    rcases List.mem_cons.1 hu with rfl | hu
    · cases k with
      | none => obtain ⟨b, rfl⟩ := h.1; rfl
      | some k => obtain ⟨n, rfl, _⟩ := h.1; rfl
    · exact Rowed.one h.2 u hu

section
variable {H : Type} {enc : TypeId × Value → H} {P : Program} {w : World} {base : Nat} {spare : Nat → Bool} {held : Bool}
theorem flatGo_rows {n : Nat} {cs : List Value} (rec_ : TypeId → Option (List (Option IntKind))) (hrec : ∀ t ks cs' y, rec_ t = some ks → DataW.trod enc P w base spare held n t cs' = some y → Rowed ks cs') :
    ∀ (fs : List Field) (off : Nat) (ks : List (Option IntKind)), flatGo P rec_ fs off = some ks → (∀ f ∈ fs, ∃ y, DataW.trod enc P w base spare held n f.type ((cs.drop f.offset).take (P.cellsOf f.type)) = some y) →
      Rowed ks ((cs.drop off).take ks.length)
  | [], off, ks, h, _ => by simp [flatGo] at h; subst h; simp [Rowed]
  | f :: fs, off, ks, h, hf => by
    unfold flatGo at h
    split at h
    · rename_i a ha ho
      have ho' : f.offset = off := by simpa using ho
      split at h
      · rename_i hal
        split at h
        · rename_i b hb
          injection h with h
          subst h
          obtain ⟨y, hy⟩ := hf f (List.mem_cons_self ..)
          have h1 := hrec _ _ _ _ ha hy
          have h2 := flatGo_rows rec_ hrec fs (off + a.length) b hb (fun g hg => hf g (List.mem_cons_of_mem _ hg))
          rw [ho', ← hal] at h1
          have e : (cs.drop off).take (a ++ b).length = (cs.drop off).take a.length ++ (cs.drop (off + a.length)).take b.length := by
            rw [List.length_append, List.take_add, List.drop_drop]
          rw [e]
          exact Rowed.append h1 h2
        · cases h
      · cases h
    · cases h
theorem flatRep_rows {cs : List Value} {a : List (Option IntKind)} (sz : Nat) (hsz : a.length = sz) : ∀ (m i : Nat), (∀ j, i ≤ j → j < i + m → Rowed a ((cs.drop (j * sz)).take sz)) → Rowed (flatRep a m) ((cs.drop (i * sz)).take (flatRep a m).length)
  | 0, _, _ => by simp [flatRep, Rowed]
  | m + 1, i, h => by
    have h1 := h i (Nat.le_refl _) (by omega)
    have h2 := flatRep_rows sz hsz m (i + 1) (fun j hj hj' => h j (by omega) (by omega))
    have e : (cs.drop (i * sz)).take (flatRep a (m + 1)).length = (cs.drop (i * sz)).take sz ++ (cs.drop ((i + 1) * sz)).take (flatRep a m).length := by
      simp only [flatRep, List.length_append, hsz]
      rw [List.take_add, List.drop_drop, Nat.add_mul, Nat.one_mul]
    rw [e]
    exact Rowed.append h1 h2
theorem flatK_rows : ∀ (f n : Nat) (t : TypeId) (ks : List (Option IntKind)) (cs : List Value) (y : DataW H × List MemPlace), flatK P f t = some ks → DataW.trod enc P w base spare held n t cs = some y → Rowed ks cs
  | 0, _, _, _, _, _, h, _ => by simp [flatK] at h
  | f + 1, n, t, ks, cs, y, h, hy => by
    unfold flatK at h
    split at h
    · rename_i k hu
      injection h with h; subst h
      obtain ⟨x, rfl, _, hw⟩ := DataW.trod_int hu hy
      exact ⟨⟨x, rfl, hw⟩, trivial⟩
    · rename_i hu
      injection h with h; subst h
      obtain ⟨b, rfl, _⟩ := DataW.trod_bool hu hy
      exact ⟨⟨b, rfl⟩, trivial⟩
    · rename_i fs hu
      split at h
      · rename_i a ha
        split at h
        · rename_i hal
          injection h with h; subst h
          obtain ⟨xs, m, _, _, hlen, hxl, hf⟩ := DataW.trod_struct hu hy
          have := flatGo_rows (cs := cs) (flatK P f) (fun t ks cs' y h1 h2 => flatK_rows f m t ks cs' y h1 h2) fs.toList 0 a ha (fun g hg => by
            obtain ⟨j, hj, hjg⟩ := List.getElem_of_mem hg
            have hj' : fs[j]? = some g := by rw [← Array.getElem?_toList, List.getElem?_eq_getElem hj, hjg]
            have h3 := hf j g hj'
            have hjl : j < xs.length := by rw [hxl]; simpa using hj
            rw [List.getElem?_eq_getElem hjl] at h3
            exact ⟨_, h3⟩)
          rw [List.drop_zero, hal, ← hlen, List.take_length] at this
          exact this
        · cases h
      · cases h
    · rename_i m e hu
      split at h
      · rename_i a ha
        split at h
        · rename_i hal
          injection h with h; subst h
          obtain ⟨xs, m', _, _, hlen, hxl, hf⟩ := DataW.trod_array hu hy
          have := flatRep_rows (cs := cs) (P.cellsOf e) hal.1 m 0 (fun j _ hj => by
            have h3 := hf j (by omega)
            have hjl : j < xs.length := by rw [hxl]; omega
            rw [List.getElem?_eq_getElem hjl] at h3
            exact flatK_rows f m' e a _ _ ha h3)
          rw [Nat.zero_mul, List.drop_zero, hal.2, ← hlen, List.take_length] at this
          exact this
        · cases h
      · cases h
    · cases h

theorem okWide_array {r : Reach} {b0 n : Nat} {t e : TypeId} {v : Value} (ht : P.underlying t = some (.array n e)) (h : Value.okWide P w r b0 t v) : ∃ cs, v = .agg cs ∧ cs.size = P.cellsOf t := by
  simp only [Value.okWide, ht] at h
  obtain ⟨cs, h1, h2, _⟩ := h
  exact ⟨cs, h1, h2⟩

/-- a slice of plain structs comes in -/
theorem open_rows {t e : TypeId} {f sz : Nat} {ks : List (Option IntKind)} {A : Option Addr} {len cap : Nat} {d : DataW H} {ps : List MemPlace} (ht : P.underlying t = some (.slice e)) (hk : flatK P f e = some ks) (hC : P.cellsOf e = sz) (hsz : 0 < sz)
    (h : DataW.Trod enc P w base (fun _ => true) held t (.slice A len cap) d ps) (_ : ∀ x ∈ ps, x.block < w.heap.size) :
    ∃ rows : List (List Value), rows.length = len ∧ (∀ r ∈ rows, Rowed ks r) ∧ Sl w w.heap.size sz A len rows.flatten ∧ len ≤ cap ∧ (A = none → len = 0 ∧ cap = 0) := by
  obtain ⟨fuel, hf⟩ := h
  rcases open_slice ht hf with ⟨hcs, _⟩ | ⟨a, l, c, m, n, D, Pl, hcs, hb, hl, hm, hmm, hx, hi⟩
  · simp [Value.cells] at hcs
    obtain ⟨rfl, rfl, rfl⟩ := hcs
    exact ⟨[], rfl, by simp, Sl.nil_ _ _ _, Nat.le_refl _, fun _ => ⟨rfl, rfl⟩⟩
  · simp [Value.cells] at hcs
    obtain ⟨rfl, rfl, rfl⟩ := hcs
    rw [hC] at hi hx
    have hml : len ≤ m := by rw [hmm]; exact hl
    have hrow : ∀ i, i < len → ∃ r : List Value, r.length = sz ∧ Rowed ks r ∧ ∀ j, j < sz → w.cell? ((a.add (i * sz)).add j) = r[j]? := fun i hil => by
      obtain ⟨cs', h1, h2⟩ := hi i (by omega)
      obtain ⟨_, hcl, hat⟩ := World.cells?_some h1
      exact ⟨cs', hcl, flatK_rows f n e ks cs' _ hk h2, hat⟩
    obtain ⟨R, hR⟩ : ∃ R : Nat → List Value, ∀ i, i < len → (R i).length = sz ∧ Rowed ks (R i) ∧ ∀ j, j < sz → w.cell? ((a.add (i * sz)).add j) = (R i)[j]? := by
      refine ⟨fun i => if h : i < len then (hrow i h).choose else [], fun i hil => ?_⟩
      simp only [hil, dif_pos]
      exact (hrow i hil).choose_spec
    have hpl : 0 < len → a.block < w.heap.size ∧ a.spot = none := fun h0 => by
      obtain ⟨h1, _, h3⟩ := hR 0 h0
      have h4 := h3 0 hsz
      have h5 : ∃ u, (R 0)[0]? = some u := ⟨_, List.getElem?_eq_getElem (by omega)⟩
      obtain ⟨u, hu⟩ := h5
      rw [hu] at h4
      have h6 : (a.add (0 * sz)).add 0 = a := by simp [Addr.add]
      rw [h6] at h4
      refine ⟨World.block_lt_of_cell? w a h4, ?_⟩
      unfold World.cell? at h4
      cases hs : a.spot with
      | none => rfl
      | some x => rw [hs] at h4; split at h4 <;> simp at h4
    refine ⟨(List.range len).map R, by simp, fun r hr => ?_, ⟨?_, fun h0 => ?_, fun h0 => ?_, fun j hj => ?_⟩, hl, fun h => by cases h⟩
    · obtain ⟨i, hi', rfl⟩ := List.mem_map.1 hr
      exact (hR i (by simpa using hi')).2.1
    · rw [List.length_flatten]
      have : ((List.range len).map R).map List.length = List.replicate len sz := by
        apply List.ext_getElem
        · simp
        · intro i h1 h2
          simp at h1 ⊢
          exact (hR i h1).1
      rw [this]; simp
    · obtain ⟨_, hsp⟩ := hpl h0
      obtain ⟨b, o, sp⟩ := a
      simp only at hsp
      subst hsp
      simp [ablk, aoff]
    · obtain ⟨hb', _⟩ := hpl h0
      simpa [ablk] using hb'
    · have h0 : 0 < len := by
        rcases Nat.eq_zero_or_pos len with h | h
        · subst h; simp at hj
        · exact h
      obtain ⟨_, hsp⟩ := hpl h0
      have hjq : j / sz < len := Nat.div_lt_of_lt_mul (by rw [Nat.mul_comm]; exact hj)
      have hjr : j % sz < sz := Nat.mod_lt _ hsz
      have h7 := (hR (j / sz) hjq).2.2 (j % sz) hjr
      have hjj : j / sz * sz + j % sz = j := by rw [Nat.mul_comm]; exact Nat.div_add_mod j sz
      have h8 : (a.add (j / sz * sz)).add (j % sz) = ⟨ablk (some a), aoff (some a) + j, none⟩ := by
        obtain ⟨b, o, sp⟩ := a
        simp only at hsp
        subst hsp
        rw [Go.Deep.add_add, hjj]
        unfold Addr.add
        split
        · rename_i h; subst h; simp [ablk, aoff]
        · simp [ablk, aoff]
      rw [h8] at h7
      rw [h7]
      have h9 := flat_at (fun r : List Value => r) sz
      clear h9
      have key : ∀ (l : List (List Value)) (k i : Nat) (x : List Value), (∀ r ∈ l, r.length = sz) → l[k]? = some x → i < sz → l.flatten[k * sz + i]? = x[i]? := by
        intro l
        induction l with
        | nil => intro k i x _ h; simp at h
        | cons y l ih =>
          intro k i x hall h hi
          have hy : y.length = sz := hall y (List.mem_cons_self ..)
          cases k with
          | zero =>
            simp at h; subst h
            simp [List.flatten_cons, List.getElem?_append, hy, hi]
          | succ k =>
            simp at h
            rw [List.flatten_cons, List.getElem?_append_right (by rw [hy, Nat.add_mul]; omega), hy]
            have : (k + 1) * sz + i - sz = k * sz + i := by rw [Nat.add_mul]; omega
            rw [this]
            exact ih k i x (fun r hr => hall r (List.mem_cons_of_mem _ hr)) h hi
      have hk2 := key ((List.range len).map R) (j / sz) (j % sz) (R (j / sz)) (fun r hr => by
        obtain ⟨i, hi', rfl⟩ := List.mem_map.1 hr
        exact (hR i (by simpa using hi')).1) (by simp [hjq]) hjr
      rw [hjj] at hk2
      exact hk2.symm
theorem Rowed.cons_inv {k : Option IntKind} {ks : List (Option IntKind)} {l : List Value} (h : Rowed (k :: ks) l) : ∃ v l', l = v :: l' ∧ matchK k v ∧ Rowed ks l' := by
  cases l with
  | nil => exact h.elim
  | cons v l' => exact ⟨v, l', rfl, h.1, h.2⟩
theorem Rowed.nil_inv {l : List Value} (h : Rowed [] l) : l = [] := by
  cases l with
  | nil => rfl
  | cons v l' => exact h.elim
theorem Rowed.two {l : List Value} (h : Rowed [some .i64, some .i64] l) : ∃ a b, l = [.int .i64 a, .int .i64 b] := by
  obtain ⟨_, _, rfl, ⟨x, rfl, _⟩, h1⟩ := h.cons_inv
  obtain ⟨_, _, rfl, ⟨y, rfl, _⟩, h2⟩ := h1.cons_inv
  obtain rfl := h2.nil_inv
  exact ⟨x, y, rfl⟩
theorem open_arr2 {r : Reach} {b0 n f : Nat} {t e : TypeId} {v : Value} {d : DataW H} {ps : List MemPlace} (ht : P.underlying t = some (.array n e)) (hk : flatK P f t = some [some .i64, some .i64])
    (hv : Value.okWide P w r b0 t v) (h : DataW.Trod enc P w base spare held t v d ps) : ∃ a b, v = .agg #[.int .i64 a, .int .i64 b] := by
  obtain ⟨cs, rfl, hsz⟩ := okWide_array ht hv
  obtain ⟨m, hm⟩ := h
  obtain ⟨a, b, hab⟩ := Rowed.two (flatK_rows f m t _ _ _ hk hm)
  exact ⟨a, b, by obtain ⟨l⟩ := cs; simp [Value.cells] at hab; rw [hab]⟩
end
end Go.Proofs.YtboommppikfgnaaDoor
