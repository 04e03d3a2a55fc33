/- A range over a function, its assignment one slot from one parameter; what keeps an own row.
   Conditions: none. -/
import Derived.Test.YtiihhpmgfmiacaaDoorSchEa
import Derived.RangeFuncWrites
import Derived.Maps.OwnIn
namespace Go.Proofs.YtiihhpmgfmiacaaDoor
open Go Go.RowKit Go.Shelf

theorem range_at {F : Fence} {n : Nat} {P : Program} {g : Operand} {ps : Array Tmp} {assign body : Code} {Q : Exit → Act → World → Prop} {a : Act} {w : World} (p q : Nat)
    (hro : F.round = none) (h1 : 1 ≤ n) {gf : Nat} {lb : Array Value} (hg : a.eval g = .func (.func gf) #[] lb) (hFg : F.fn gf) (eg : ∀ args w, (callFunc gf args).run P w = .ok (.enter gf args) w)
    {Kp : World → World → Prop} {S Sp : List Int → Prop} {N : Nat} (hseq : SeqStopsK F (n - 1) P gf lb (fun x : Int => #[Value.int .i64 x]) Kp S Sp N w)
    (hKt : ∀ {A B C : World}, Kp A B → Kp B C → Kp A C) (hKb : ∀ (W : World) (l : Nat) (o o' : Obj), w.heap.size ≤ l → W.heap[l]? = some o → o.isCells = false → o.isWalk = false → Kp W (W.putObj l o')) (hps : ps.size = 1)
    (I : List Int → World → Prop) (Ix : Code → List Int → World → Prop) (hI : OwnFrom w.heap.size I) (hIx : ∀ c, OwnFrom w.heap.size (Ix c)) (h0 : I [] w)
    (hassign : ∀ (l : Nat) (x : Int) (W : World) (K : Act → World → Prop), K { tmps := (a.tmps.setIfInBounds p (.int .i64 x)).setIfInBounds q (.int .i64 x), defers := [] } W →
      assign.wpIn (F.inRound l) (n - 1 - 1) P (Exit.then K (fun _ _ _ => False)) { tmps := (ps.zip #[Value.int .i64 x]).foldl (fun t (p, v) => t.setIfInBounds p v) a.tmps, defers := [] } W)
    (hbody : ∀ (l : Nat) (pre : List Int) (x : Int) (W : World), I pre W → pre.length < N → body.wpIn (F.inRound l) (n - 1 - 1) P (ownPostG w.heap.size Kp I Ix (pre ++ [x]) W) { tmps := (a.tmps.setIfInBounds p (.int .i64 x)).setIfInBounds q (.int .i64 x), defers := [] } W)
    (hdone : ∀ (D : Nat) (xs : List Int) (W : World), w.heap.size ≤ D → S xs → I xs W → W.heap[D]? = some (.deferred (some [])) → Q .normal { a with defers := { target := .collected D, args := #[] } :: a.defers } W)
    (hstop : ∀ (D : Nat) (c : Code) (pre : List Int) (W : World), w.heap.size ≤ D → Sp pre → Ix c pre W → W.heap[D]? = some (.deferred (some [])) → c.wpIn F n P Q { a with defers := { target := .collected D, args := #[] } :: a.defers } W) :
    (Code.rangeFunc g ps assign body).wpIn F n P Q a w :=
  wpIn_rangeFunc_ownG hro h1 hg hFg eg hseq hKt hKb (Below.refl _ _) (fun _ => by rw [hps]; rfl) I Ix hI hIx h0 (fun x => { tmps := (a.tmps.setIfInBounds p (.int .i64 x)).setIfInBounds q (.int .i64 x), defers := [] }) hassign hbody hdone hstop

theorem own_far {w w' : World} {base : Nat} {e : TypeId} {size n : Nat} {v : Value} {xs : List Value} {row : Option Nat} (h : w.ownsRow base e size v n xs) (hg : w.grownBy w' row) (hr : ∀ g, v.ownBlock = some g → row ≠ some g) : w'.ownsRow base e size v n xs := by
  refine ⟨h.1, ?_⟩
  rcases h.2 with hn | ⟨g, cap, cur, rfl, hbg, hgc, rest⟩
  · exact .inl hn
  · exact .inr ⟨g, cap, cur, rfl, hbg, (hg.block g (lt_size hgc) (fun e => hr g rfl e.symm)).trans hgc, rest⟩
/-- an own row's block holds cells of its type -/
theorem own_cells {w : World} {base : Nat} {e : TypeId} {size n : Nat} {v : Value} {xs : List Value} (h : w.ownsRow base e size v n xs) {g : Nat} (hg : v.ownBlock = some g) : ∃ cs, Blk w g e cs := by
  rcases h.2 with ⟨rfl, -⟩ | ⟨g', cap, cur, rfl, hbg, hgc, rest⟩
  · cases hg
  · injection hg with hg; subst hg; exact ⟨_, hgc⟩
theorem own_nocell {w : World} {base : Nat} {e : TypeId} {size n : Nat} {v : Value} {xs : List Value} (h : w.ownsRow base e size v n xs) {r : Nat} {o : Obj} (ho : w.heap[r]? = some o) (hc : o.isCells = false) : ∀ g, v.ownBlock = some g → some r ≠ some g := by
  intro g hg e
  injection e with e
  subst e
  obtain ⟨cs, hb⟩ := own_cells h hg
  unfold Blk at hb
  rw [ho] at hb
  injection hb with hb
  subst hb
  cases hc

/-- a list that is collected in the cell n5 -/
structure Jo (n5 : Nat) (w5 : World) (xs : List Int) (W : World) : Prop where
  below : Below n5 w5 W
  row : ∃ v, Blk W n5 39 #[v] ∧ W.ownsRow (n5 + 1) 3 1 v xs.length (xs.map intV)
theorem Jo.grown {n5 : Nat} {w5 W W' : World} {xs : List Int} {row : Option Nat} (J : Jo n5 w5 xs W) (hg : W.grownBy W' row) (hr : ∀ r, row = some r → n5 + 1 ≤ r ∧ ∃ o : Obj, W.heap[r]? = some o ∧ o.isCells = false) : Jo n5 w5 xs W' := by
  obtain ⟨v, h1, h2⟩ := J.row
  have hlt := h1.lt
  refine ⟨J.below.grown hg (by omega) (fun g e => by have := (hr g e).1; omega), v, h1.grown hg (fun e => by have := (hr _ e).1; omega), own_far h2 hg fun g hv e => ?_⟩
  obtain ⟨-, o, ho, hc⟩ := hr g e
  exact own_nocell h2 ho hc g hv rfl
theorem Jo.step {n5 : Nat} {w5 W W' : World} {xs : List Int} (J : Jo n5 w5 xs W) (hb : Below W.heap.size W W') : Jo n5 w5 xs W' := by
  obtain ⟨v, h1, h2⟩ := J.row
  exact ⟨J.below.trans (hb.mono (by have := h1.lt; omega)), v, h1.step hb, own_step h2 hb⟩
theorem jo_app {n5 : Nat} {w5 W w9 : World} {v v' : Value} {n : Nat} {ys : List Value} {zs : List Int} {x : Int} (hb : Below n5 w5 W) (bw : Blk W n5 39 #[v]) (ho : W.ownsRow (n5 + 1) 3 1 v n ys)
    (hg : (W.alloc (.cells #[.int .i64 x] 3)).grownBy w9 v.ownBlock) (ho' : w9.ownsRow (n5 + 1) 3 1 v' zs.length (zs.map intV)) :
    Jo n5 w5 zs (w9.setCell ⟨n5, 0, none⟩ v') ∧ KeepsOthers W (w9.setCell ⟨n5, 0, none⟩ v') ∧ PkKeep n5 W (w9.setCell ⟨n5, 0, none⟩ v') := by
  have hlt := bw.lt
  have hob : ∀ g, v.ownBlock = some g → n5 + 1 ≤ g := fun g h => (own_at ho g h).1
  have hob' : ∀ g, v'.ownBlock = some g → n5 + 1 ≤ g := fun g h => (own_at ho' g h).1
  have b9 : Blk w9 n5 39 #[v] := (bw.alloc _).grown hg (fun e => by have := hob _ e; omega)
  have hb9 : Below n5 w5 w9 := (hb.alloc (by omega) _).grown hg (by simp; omega) (fun g e => by have := hob g e; omega)
  refine ⟨⟨hb9.setCell (p := ⟨n5, 0, none⟩) (Nat.le_refl _) _, v', b9.set_ 0 _, own_far ho' (grownBy_setCell' _ n5 _) fun g h e => by injection e with e; have := hob' g h; omega⟩, ?_, ?_⟩
  · refine ((KeepsOthers.alloc W _).trans (KeepsOthers.of_grownBy hg fun j o hj ho2 => ?_)).trans (KeepsOthers.setCell _ _ _)
    obtain ⟨cs, hc⟩ := own_cells ho hj
    have := hc.alloc (.cells #[.int .i64 x] 3)
    unfold Blk at this
    rw [this] at ho2
    injection ho2 with ho2
    subst ho2
    rfl
  · refine ⟨(((Below.refl n5 W).alloc (by omega) _).grown hg (by simp; omega) (fun g e => by have := hob g e; omega)).setCell (p := ⟨n5, 0, none⟩) (Nat.le_refl _) _, fun g cs hb2 => ?_⟩
    have h1 : Blk w9 g 33 cs := (hb2.alloc _).grown hg fun e => by
      obtain ⟨cs', hc⟩ := own_cells ho e
      exact hb2.ne_ hc (by decide) rfl
    exact h1.far (h1.ne_ b9 (by decide)) _

/-- up to L in all is the first L -/
theorem allFrom_take : ∀ (ps : List Pk) (L M : Nat), L ≤ M → allFrom L ps = (allFrom M ps).take L
  | [], _, _, _ => by simp [allFrom]
  | p :: r, L, M, h => by
    have ih := allFrom_take r (L - min p.tm.toNat L) (M - min p.tm.toNat M)
    simp only [allFrom, List.take_append, List.take_replicate, List.length_replicate]
    by_cases ht : p.tm.toNat ≤ L
    · rw [ih (by omega), show min p.tm.toNat L = min L (min p.tm.toNat M) by omega, show L - min L (min p.tm.toNat M) = L - min p.tm.toNat M by omega]
    · have e0 : ∀ r : List Pk, allFrom 0 r = [] := fun r => List.eq_nil_of_length_eq_zero (by have := allSize 0 r; omega)
      rw [show L - min p.tm.toNat L = 0 by omega, e0, show min p.tm.toNat L = min L (min p.tm.toNat M) by omega, show L - min p.tm.toNat M = 0 by omega, List.take_zero]
theorem allL_join (ps qs : List Pk) : allL (ps ++ qs) = (allL ps ++ allL qs).take 60000 := by
  have h1 : (allL ps).length ≤ 60000 := allSize _ _
  unfold allL at h1 ⊢
  rw [allMore, List.take_append, List.take_of_length_le h1, allFrom_take qs (60000 - (allFrom 60000 ps).length) 60000 (by omega)]
theorem take_more (l : List Int) (x : Int) (L : Nat) : (l ++ [x]).take L = if l.length < L then l.take L ++ [x] else l.take L := by
  split
  · rw [List.take_of_length_le (by simp; omega), List.take_of_length_le (by omega)]
  · rw [List.take_append_of_le_length (by omega)]
end Go.Proofs.YtiihhpmgfmiacaaDoor
