/- Small words for memory, of no program: frames by block number and by element type, blocks known whole, slices that read as a list of cells, the class of later worlds.
   Conditions: none. -/
import Derived.WalkKit
import Derived.Deep.Draws
import Derived.Deep.Quiet
import Derived.Lib.Hide
import Derived.WalkSmall
namespace Go.Proofs.YtboommppikfgnaaDoor
open Go Go.RowKit

/-- Kept below B, and every block that is not one of cells of the types L. -/
structure Kp (B : Nat) (L : List TypeId) (w w' : World) : Prop where
  below : Below B w w'
  ty : ∀ (g : Nat) (o : Obj), w.heap[g]? = some o → (∀ cs t fz, o = .cells cs t fz → t ∉ L) → w'.heap[g]? = some o

theorem lt_size {w : World} {g : Nat} {o : Obj} (h : w.heap[g]? = some o) : g < w.heap.size := lt_of_block h

theorem Kp.size {B : Nat} {L : List TypeId} {w w' : World} (h : Kp B L w w') : w.heap.size ≤ w'.heap.size := h.below.size
theorem Kp.refl (B : Nat) (L : List TypeId) (w : World) : Kp B L w w := ⟨Below.refl _ _, fun _ _ h _ => h⟩
theorem Kp.trans {B : Nat} {L : List TypeId} {a b c : World} (h : Kp B L a b) (k : Kp B L b c) : Kp B L a c :=
  ⟨h.below.trans k.below, fun g o ho hl => k.ty g o (h.ty g o ho hl) hl⟩
theorem Kp.mono {B B' : Nat} {L L' : List TypeId} {w w' : World} (h : Kp B L w w') (hB : B' ≤ B) (hL : ∀ t, t ∈ L → t ∈ L') : Kp B' L' w w' :=
  ⟨h.below.mono hB, fun g o ho hl => h.ty g o ho fun cs t fz e ht => hl cs t fz e (hL t ht)⟩
theorem Kp.of_below {w w' : World} (h : Below w.heap.size w w') (L : List TypeId) : Kp w.heap.size L w w' :=
  ⟨h, fun g _ ho _ => (h.block g (lt_size ho)).trans ho⟩
theorem Kp.drew {B : Nat} {L : List TypeId} {a w : World} (h : Kp B L a w) : Kp B L a w.drew := ⟨h.below.drew, h.ty⟩
theorem Kp.drewN {B : Nat} {L : List TypeId} {a w : World} (h : Kp B L a w) (n : Nat) : Kp B L a (w.drewN n) := ⟨⟨h.below.os, h.below.tape, h.below.output, h.below.size, h.below.block⟩, h.ty⟩
theorem Kp.alloc {B : Nat} {L : List TypeId} {a w : World} (h : Kp B L a w) (hB : B ≤ w.heap.size) (o : Obj) : Kp B L a (w.alloc o) :=
  ⟨h.below.alloc hB o, fun g o' ho hl => by
    have := h.ty g o' ho hl
    exact (Below.heap_alloc w o g (lt_size this)).trans this⟩
theorem Kp.step {B : Nat} {L : List TypeId} {a w w' : World} (h : Kp B L a w) (hB : B ≤ w.heap.size) (hb : Below w.heap.size w w') : Kp B L a w' :=
  h.trans ((Kp.of_below hb L).mono hB (fun _ h => h))
theorem Kp.grown {B : Nat} {L : List TypeId} {a w w' : World} {row : Option Nat} (h : Kp B L a w) (hB : B ≤ w.heap.size) (hg : w.grownBy w' row)
    (hr : ∀ g, row = some g → B ≤ g ∧ ∃ cs t fz, w.heap[g]? = some (.cells cs t fz) ∧ t ∈ L) : Kp B L a w' :=
  ⟨h.below.grown hg hB (fun k hk => (hr k hk).1), fun g o ho hl => by
    have h1 := h.ty g o ho hl
    rw [hg.block g (lt_size h1) (fun e => by
      obtain ⟨_, cs, t, fz, h2, h3⟩ := hr g e.symm
      rw [h1] at h2
      injection h2 with h2
      exact hl cs t fz h2 h3)]
    exact h1⟩

/-- Block g is just the cells cs of element type t, none frozen. -/
def Blk (w : World) (g : Nat) (t : TypeId) (cs : Array Value) : Prop := w.heap[g]? = some (.cells cs t (0, 0))

section
variable {w w' : World} {g : Nat} {t : TypeId} {cs : Array Value}
theorem Blk.lt (h : Blk w g t cs) : g < w.heap.size := lt_size h
theorem Blk.cell (h : Blk w g t cs) (i : Nat) : w.cell? ⟨g, i, none⟩ = cs[i]? := cell_of_row w g i cs t (0, 0) h
theorem Blk.cells (h : Blk w g t cs) : ∀ i, w.cell? ⟨g, i, none⟩ = cs[i]? := h.cell
theorem Blk.frozen (h : Blk w g t cs) (i : Nat) : w.frozen? ⟨g, i, none⟩ = false := by
  unfold Blk at h
  simp [World.frozen?, h]
theorem Blk.frees (h : Blk w g t cs) : ∀ i, w.frozen? ⟨g, i, none⟩ = false := h.frozen
theorem Blk.new (w : World) (t : TypeId) (cs : Array Value) : Blk (w.alloc (.cells cs t)) w.heap.size t cs := heap_alloc_new w _
theorem Blk.newAt (w : World) (t : TypeId) (cs : Array Value) {g : Nat} (hg : g = w.heap.size) : Blk (w.alloc (.cells cs t)) g t cs := by subst hg; exact Blk.new w t cs
theorem Blk.drew (h : Blk w g t cs) : Blk w.drew g t cs := h
theorem Blk.drewN (h : Blk w g t cs) (n : Nat) : Blk (w.drewN n) g t cs := h
theorem Blk.alloc (h : Blk w g t cs) (o : Obj) : Blk (w.alloc o) g t cs := (Below.heap_alloc w o g h.lt).trans h
theorem Blk.set_ (h : Blk w g t cs) (i : Nat) (u : Value) : Blk (w.setCell ⟨g, i, none⟩ u) g t (cs.setIfInBounds i u) := heap_setCell_same w g i cs t u h
theorem Blk.far (h : Blk w g t cs) {p : Addr} (hp : g ≠ p.block) (u : Value) : Blk (w.setCell p u) g t cs := (heap_setCell_other w p g u hp).trans h
theorem Blk.below {B : Nat} (h : Blk w g t cs) (hb : Below B w w') (hg : g < B) : Blk w' g t cs := (hb.block g hg).trans h
theorem Blk.step (h : Blk w g t cs) (hb : Below w.heap.size w w') : Blk w' g t cs := h.below hb h.lt
theorem Blk.kp {B : Nat} {L : List TypeId} (h : Blk w g t cs) (hb : Kp B L w w') (ht : t ∉ L) : Blk w' g t cs :=
  hb.ty g _ h (fun _ _ _ e => by injection e with _ e; subst e; exact ht)
theorem Blk.grown {row : Option Nat} (h : Blk w g t cs) (hb : w.grownBy w' row) (hg : row ≠ some g) : Blk w' g t cs := (hb.block g h.lt (fun e => hg e.symm)).trans h
theorem Blk.ne_ {g' : Nat} {t' : TypeId} {cs' : Array Value} (h : Blk w g t cs) (h' : Blk w g' t' cs') (hne : t ≠ t') : g ≠ g' := by
  rintro rfl
  unfold Blk at h h'
  rw [h] at h'
  injection h' with h'
  injection h' with _ ht
  exact hne ht
end

section
variable {w w' : World} {base base' : Nat} {e : TypeId} {size n : Nat} {v : Value} {xs : List Value}
/-- the block of an owned row, if it has one -/
theorem own_at (h : w.ownsRow base e size v n xs) : ∀ g, v.ownBlock = some g → base ≤ g ∧ ∃ cs, Blk w g e cs := by
  intro g hg
  rcases h.2 with ⟨rfl, _⟩ | ⟨g', cap, cur, rfl, hb, hh, _⟩
  · simp [Value.ownBlock] at hg
  · simp [Value.ownBlock] at hg
    subst hg
    exact ⟨hb, cur, hh⟩
theorem own_ne {g : Nat} {t : TypeId} {cs : Array Value} (h : w.ownsRow base e size v n xs) (hg : Blk w g t cs) (hne : e ≠ t) : v.ownBlock ≠ some g := by
  intro he
  obtain ⟨_, cs', h'⟩ := own_at h g he
  exact Blk.ne_ h' hg hne rfl
theorem own_ne_own {e' : TypeId} {size' n' : Nat} {v' : Value} {xs' : List Value} (h : w.ownsRow base e size v n xs) (h' : w.ownsRow base' e' size' v' n' xs') (hne : e ≠ e') :
    v.ownBlock = none ∨ v.ownBlock ≠ v'.ownBlock := by
  cases hv : v.ownBlock with
  | none => exact .inl rfl
  | some g =>
    refine .inr fun he => ?_
    obtain ⟨_, cs, h1⟩ := own_at h g hv
    obtain ⟨_, cs', h2⟩ := own_at h' g he.symm
    exact Blk.ne_ h1 h2 hne rfl
theorem own_kp {B : Nat} {L : List TypeId} (h : w.ownsRow base e size v n xs) (hb : Kp B L w w') (he : e ∉ L) : w'.ownsRow base e size v n xs := by
  refine ⟨h.1, ?_⟩
  rcases h.2 with hn | ⟨g, cap, cur, rfl, hbg, hg, rest⟩
  · exact .inl hn
  · exact .inr ⟨g, cap, cur, rfl, hbg, Blk.kp (t := e) hg hb he, rest⟩
theorem own_below {B : Nat} (h : w.ownsRow base e size v n xs) (hb : Below B w w') (hB : ∀ g, v.ownBlock = some g → g < B) : w'.ownsRow base e size v n xs := by
  refine ⟨h.1, ?_⟩
  rcases h.2 with hn | ⟨g, cap, cur, rfl, hbg, hg, rest⟩
  · exact .inl hn
  · exact .inr ⟨g, cap, cur, rfl, hbg, (hb.block g (hB g rfl)).trans hg, rest⟩
theorem own_step (h : w.ownsRow base e size v n xs) (hb : Below w.heap.size w w') : w'.ownsRow base e size v n xs :=
  own_below h hb fun g hg => by obtain ⟨_, cs, h'⟩ := own_at h g hg; exact h'.lt
theorem own_drewN (h : w.ownsRow base e size v n xs) (k : Nat) : (w.drewN k).ownsRow base e size v n xs := h
theorem own_set (h : w.ownsRow base e size v n xs) {a : Addr} (ha : v.ownBlock ≠ some a.block) (u : Value) : (w.setCell a u).ownsRow base e size v n xs := ownsRow_setCell_other h ha u
theorem own_base (h : w.ownsRow base e size v n xs) (hb : ∀ g, v.ownBlock = some g → base' ≤ g) : w.ownsRow base' e size v n xs := by
  refine ⟨h.1, ?_⟩
  rcases h.2 with hn | ⟨g, cap, cur, rfl, hbg, rest⟩
  · exact .inl hn
  · exact .inr ⟨g, cap, cur, rfl, hb g rfl, rest⟩
theorem own_mono (h : w.ownsRow base e size v n xs) (hb : base' ≤ base) : w.ownsRow base' e size v n xs :=
  own_base h fun g hg => Nat.le_trans hb (own_at h g hg).1
/-- its value: nil and nothing, or a slice of n -/
theorem own_form (h : w.ownsRow base e size v n xs) : ∃ A c, v = .slice A n c ∧ n ≤ c ∧ (A = none → n = 0 ∧ c = 0) ∧ ∀ a, A = some a → a = ⟨a.block, 0, none⟩ := by
  rcases h.2 with ⟨rfl, rfl⟩ | ⟨g, cap, cur, rfl, _, _, hc, _⟩
  · exact ⟨none, 0, rfl, Nat.le_refl _, fun _ => ⟨rfl, rfl⟩, by simp⟩
  · exact ⟨_, cap, rfl, hc, by simp, by simp⟩
end

/-- the block and the offset of a slice's address -/
def ablk (A : Option Addr) : Nat := (A.map (·.block)).getD 0
def aoff (A : Option Addr) : Nat := (A.map (·.off)).getD 0

/-- A slice value '.slice A n c' of elements of sz cells reads as the cells xs, and lies below block B. -/
structure Sl (w : World) (B sz : Nat) (A : Option Addr) (n : Nat) (xs : List Value) : Prop where
  len : xs.length = n * sz
  adr : 0 < n → A = some ⟨ablk A, aoff A, none⟩
  blt : 0 < n → ablk A < B
  cell : ∀ j, j < n * sz → w.cell? ⟨ablk A, aoff A + j, none⟩ = xs[j]?

section
variable {w w' : World} {B B' sz n : Nat} {A : Option Addr} {xs : List Value}
theorem Sl.pos (h : Sl w B sz A n xs) {j : Nat} (hj : j < n * sz) : 0 < n := by
  rcases Nat.eq_zero_or_pos n with h0 | h0
  · subst h0; simp at hj
  · exact h0
theorem Sl.nil_ (w : World) (B sz : Nat) : Sl w B sz none 0 [] := ⟨by simp, fun h => absurd h (by omega), fun h => absurd h (by omega), fun j hj => absurd hj (by simp)⟩
theorem Sl.empty (w : World) (B sz : Nat) (A : Option Addr) : Sl w B sz A 0 [] := ⟨by simp, fun h => absurd h (by omega), fun h => absurd h (by omega), fun j hj => absurd hj (by simp)⟩
theorem Sl.keep (h : Sl w B sz A n xs) (hk : ∀ p : Addr, p.block < B → w'.cell? p = w.cell? p) : Sl w' B sz A n xs :=
  ⟨h.len, h.adr, h.blt, fun j hj => (hk _ (h.blt (h.pos hj))).trans (h.cell j hj)⟩
theorem Sl.below (h : Sl w B sz A n xs) (hb : Below B w w') : Sl w' B sz A n xs := h.keep fun _ hp => hb.cell hp
theorem Sl.more (h : Sl w B sz A n xs) (hB : B ≤ B') : Sl w B' sz A n xs := ⟨h.len, h.adr, fun hn => by have := h.blt hn; omega, h.cell⟩
theorem Sl.step (h : Sl w B sz A n xs) (hB : B ≤ w.heap.size) (hb : Below w.heap.size w w') : Sl w' B sz A n xs := h.below (hb.mono hB)
theorem Sl.of_own {base c : Nat} {e : TypeId} (h : w.ownsRow base e sz (.slice A n c) n xs) : Sl w w.heap.size sz A n xs := by
  rcases h.2 with ⟨h0, rfl⟩ | ⟨g, cap, cur, hv, hbg, hg, hnc, hcm, hcs, htake⟩
  · injection h0 with h0; subst h0
    have : xs = [] := List.eq_nil_of_length_eq_zero (by simpa using h.1)
    subst this
    exact Sl.nil_ _ _ _
  · injection hv with hv _ _; subst hv
    refine ⟨h.1, fun _ => rfl, fun _ => lt_size hg, fun j hj => ?_⟩
    have := h.cells (g := g) rfl j
    have hjl : j < xs.length := by rw [h.1]; exact hj
    have h2 := this _ (List.getElem?_eq_getElem hjl)
    rw [List.getElem?_eq_getElem hjl]
    simp only [ablk, aoff, Option.map_some, Option.getD_some, Nat.zero_add]
    have hadd : (⟨g, 0, none⟩ : Addr).add j = ⟨g, j, none⟩ := by unfold Addr.add; split <;> simp_all
    rw [hadd] at h2
    exact h2
/-- the address of element k, as the walk asks it -/
theorem Sl.idx {P : Program} {t e : TypeId} (h : Sl w B sz A n xs) (ht : P.underlying t = some (.slice e)) (he : (P.info? e).map (·.size) = some sz) {k c : Nat} (hk : k < n) :
    ∀ W : World, (Instr.indexAt t (.slice A n c) (.int .i64 (k : Int))).run P W = .ok (.pointer (some ⟨ablk A, aoff A + k * sz, none⟩)) W := by
  intro W
  have hA := h.adr (by omega)
  rw [hA]
  have hel : P.elem t = e := by simp [Program.elem, ht]
  rw [run_indexAt_slice (h := by rw [hel]; exact ht), if_pos (by omega), hel]
  obtain ⟨i, hi, hs⟩ := Option.map_eq_some_iff.1 he
  simp [sizeOf, typeInfo, hi, hs, Addr.add]
  by_cases h0 : k * sz = 0
  · have h1 : k = 0 ∨ sz = 0 := Nat.mul_eq_zero.1 h0
    simp [h0, ablk, aoff]
  · have h1 : ¬ (k = 0 ∨ sz = 0) := fun h => h0 (Nat.mul_eq_zero.2 h)
    simp [h0, ablk, aoff]
theorem Sl.at_ (h : Sl w B sz A n xs) {k i : Nat} (hk : k < n) (hi : i < sz) : w.cell? ⟨ablk A, aoff A + k * sz + i, none⟩ = xs[k * sz + i]? := by
  have : k * sz + i < n * sz := by
    have h1 : (k + 1) * sz ≤ n * sz := Nat.mul_le_mul_right _ (by omega)
    rw [Nat.add_mul] at h1; omega
  rw [Nat.add_assoc]
  exact h.cell _ this
end

theorem Sl.cut {w : World} {B sz n : Nat} {A : Option Addr} {xs : List Value} (h : Sl w B sz A n xs) {k cap : Nat} (hk : k ≤ n) (hc : n ≤ cap) :
    Sl w B sz (if cap = k then A else A.map (·.add (k * sz))) (n - k) (xs.drop (k * sz)) := by
  have key : 0 < n - k → (if cap = k then A else A.map (·.add (k * sz))) = some ⟨ablk A, aoff A + k * sz, none⟩ := fun h0 => by
    have hA := h.adr (by omega)
    rw [if_neg (by omega), hA]
    simp only [Option.map_some, ablk, aoff, Option.getD_some]
    unfold Addr.add
    split
    · rename_i hz; simp [hz]
    · rfl
  refine ⟨by rw [List.length_drop, h.len, Nat.sub_mul], fun h0 => ?_, fun h0 => ?_, fun j hj => ?_⟩
  · rw [key h0]; simp [ablk, aoff]
  · rw [key h0]; exact h.blt (by omega)
  · have h0 : 0 < n - k := by
      rcases Nat.eq_zero_or_pos (n - k) with h0 | h0
      · rw [h0] at hj; simp at hj
      · exact h0
    rw [key h0]
    simp only [ablk, aoff, Option.map_some, Option.getD_some]
    have := h.cell (k * sz + j) (by rw [Nat.sub_mul] at hj; omega)
    rw [← Nat.add_assoc] at this
    simp only [ablk, aoff] at this
    rw [this, List.getElem?_drop]

/-- 'x[k:]' of a slice, its new address by a name -/
theorem run_cut {P : Program} {t e : TypeId} {sz : Nat} (ht : P.underlying t = some (.slice e)) (he : (P.info? e).map (·.size) = some sz) (A : Option Addr) (m c k : Nat) (i : Int) (hi : i = (k : Int)) (hk : k ≤ m) (W : World) :
    (Instr.sliceAt t (.slice A m c) (some (.int .i64 i)) none none).run P W = .ok (.slice (if c = k then A else A.map (·.add (k * sz))) (m - k) (c - k)) W := by
  subst hi
  obtain ⟨inf, hinf, hs⟩ := Option.map_eq_some_iff.1 he
  have h1 : (0 : Int) ≤ (k : Int) ∧ (k : Int) ≤ (m : Int) := by omega
  simp [Instr.sliceAt, Instr.slice, run_underlying ht, Instr.sliceBounds, Instr.sliceBound, asIntOf, h1, sizeOf, typeInfo, hinf, hs, hk]

/-- a list of records, each as sz cells -/
theorem flat_len {α : Type} (f : α → List Value) (sz : Nat) (hf : ∀ x, (f x).length = sz) : ∀ l : List α, (l.flatMap f).length = l.length * sz
  | [] => by simp
  | x :: l => by simp [List.flatMap_cons, hf, flat_len f sz hf l, Nat.add_mul, Nat.add_comm]
theorem flat_at {α : Type} (f : α → List Value) (sz : Nat) (hf : ∀ x, (f x).length = sz) : ∀ (l : List α) (k i : Nat) (x : α), l[k]? = some x → i < sz → (l.flatMap f)[k * sz + i]? = (f x)[i]?
  | [], k, i, x, h, _ => by simp at h
  | y :: l, 0, i, x, h, hi => by
    simp at h; subst h
    simp [List.flatMap_cons, List.getElem?_append, hf, hi]
  | y :: l, k + 1, i, x, h, hi => by
    simp at h
    rw [List.flatMap_cons, List.getElem?_append_right (by rw [hf, Nat.add_mul]; omega), hf]
    have : (k + 1) * sz + i - sz = k * sz + i := by rw [Nat.add_mul]; omega
    rw [this]
    exact flat_at f sz hf l k i x h hi
theorem flat_drop {α : Type} (f : α → List Value) (sz : Nat) (hf : ∀ x, (f x).length = sz) : ∀ (l : List α) (k : Nat), (l.flatMap f).drop (k * sz) = (l.drop k).flatMap f
  | [], k => by simp
  | x :: l, 0 => by simp
  | x :: l, k + 1 => by
    rw [List.flatMap_cons, List.drop_succ_cons, ← flat_drop f sz hf l k, List.drop_append, List.drop_of_length_le (by rw [hf, Nat.add_mul]; omega), List.nil_append, hf, Nat.add_mul]
    congr 1
    omega
theorem flat_snoc {α : Type} (f : α → List Value) (l : List α) (x : α) : (l ++ [x]).flatMap f = l.flatMap f ++ f x := by simp
theorem flat_inj {α : Type} (f : α → List Value) (sz : Nat) (hf : ∀ x, (f x).length = sz) (hinj : ∀ x y, f x = f y → x = y) (hsz : 0 < sz) : ∀ l l' : List α, l.flatMap f = l'.flatMap f → l = l'
  | [], [], _ => rfl
  | [], y :: l', h => by
    have := congrArg List.length h
    simp [hf] at this; omega
  | x :: l, [], h => by
    have := congrArg List.length h
    simp [hf] at this; omega
  | x :: l, y :: l', h => by
    simp only [List.flatMap_cons] at h
    obtain ⟨h1, h2⟩ := List.append_inj h (by rw [hf, hf])
    rw [hinj x y h1, flat_inj f sz hf hinj hsz l l' h2]

/-- The worlds behind w that hold all that lay below B: for regions that draw their order, read below B, and make memory. -/
structure Later (B : Nat) (w : World) where
  val : World
  below : Below B w val
instance Later.inst {B : Nat} {w : World} : Nonempty (Later B w) := ⟨⟨w, Below.refl B w⟩⟩
def LaterW (B : Nat) (w : World) (w' : World) : Prop := ∃ q : Later B w, w' = q.val
theorem Later.mk_ {B : Nat} {w w' : World} (h : Below B w w') : ∃ q : Later B w, w' = q.val := ⟨⟨w', h⟩, rfl⟩
theorem Later.call {P : Program} {f : FuncId} {args : Array Value} {B : Nat} {w : World} {q : Later B w} {v : Value} (hB : B ≤ w.heap.size)
    (h : Calls P f args q.val fun e w' => e = .returned v ∧ Below q.val.heap.size q.val w') : Calls P f args q.val fun e w'' => e = .returned v ∧ ∃ r : Later B w, w'' = r.val :=
  h.mono fun _ _ ⟨he, hb⟩ => ⟨he, Later.mk_ (q.below.trans (hb.mono (Nat.le_trans hB q.below.size)))⟩
/-- One walk, in the order of the text. -/
theorem wp_region_later {P : Program} {id : Nat} {Q : Exit → Act → World → Prop} {a : Act} {w : World} {l : List Oper} (B : Nat) (hm : P.follows .mixedOrders = true) (hB : Region.lexB .any l.toArray = true)
    (h : wpQuiet P l.toArray (fun w' => ∃ q : Later B w, w' = q.val) (fun a' => ∀ w', (∃ q : Later B w, w' = q.val) → Q .normal a' w') l a) : (Code.region id l.toArray true).wp P Q a w :=
  wp_region_quiet (C := fun w' => ∃ q : Later B w, w' = q.val) hm hB (Later.mk_ (Below.refl B w).drew) (by simpa using h)
theorem Later.cell {B : Nat} {w : World} {g i : Nat} {u : Option Value} (h : w.cell? ⟨g, i, none⟩ = u) (hg : g < B) : ∀ q : Later B w, q.val.cell? ⟨g, i, none⟩ = u :=
  fun q => (q.below.cell (p := ⟨g, i, none⟩) hg).trans h
theorem Later.cells {B : Nat} {w : World} {g : Nat} {t : TypeId} {cs : Array Value} (h : Blk w g t cs) (hg : g < B) : ∀ (q : Later B w) (i : Nat), q.val.cell? ⟨g, i, none⟩ = cs[i]? :=
  fun q i => (h.below q.below hg).cell i

/-- the worlds that meet S, for a region whose early writes keep S alone -/
structure Such (S : World → Prop) where
  val : World
  ok : S val
theorem Such.mk_ {S : World → Prop} {w : World} (h : S w) : ∃ q : Such S, w = q.val := ⟨⟨w, h⟩, rfl⟩
theorem Such.ne_ {S : World → Prop} {w : World} (h : S w) : Nonempty (Such S) := ⟨⟨w, h⟩⟩

end Go.Proofs.YtboommppikfgnaaDoor
