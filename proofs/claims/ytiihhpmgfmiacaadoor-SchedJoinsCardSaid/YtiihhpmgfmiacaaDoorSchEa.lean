/- Contract of the function that the law SchedEach hands to Each.
   Conditions: its five captured cells lie apart; the want's row lies ahead of them. -/
import Derived.Test.YtiihhpmgfmiacaaDoorSchEach
import Derived.Test.YtiihhpmgfmiacaaDoorSchRefA
import Derived.Sort.CutIn
namespace Go.Proofs.YtiihhpmgfmiacaaDoor
open Go Go.RowKit Go.Shelf
attribute [local go_sem] Oper.semAt_some

theorem intSz : (Tryd.prog.info? 3).map (·.size) = some 1 := by kernel_rfl
theorem int_at {w : World} {B m : Nat} {a : Option Addr} {l : List Int} (h : Sl w B 1 a m (l.map intV)) {k : Nat} {x : Int} (hk : k < m) (hx : l[k]? = some x) : w.cell? ⟨ablk a, aoff a + k * 1, none⟩ = some (.int .i64 x) := by
  have := h.at_ (i := 0) hk (by omega)
  rw [Nat.mul_one, Nat.add_zero, Nat.add_zero, List.getElem?_map, hx] at this
  rw [Nat.mul_one]; exact this
theorem pre_snoc : ∀ (pre L : List Int) (x : Int), (pre ++ [x]).isPrefixOf L = (pre.isPrefixOf L && decide (L[pre.length]? = some x))
  | [], [], x => by simp [List.isPrefixOf]
  | [], y :: L, x => by
    by_cases h : x = y
    · subst h; simp [List.isPrefixOf]
    · have h' : ¬ y = x := fun e => h e.symm
      simp [List.isPrefixOf, h, h']
  | a :: pre, [], x => by simp [List.isPrefixOf]
  | a :: pre, y :: L, x => by
    have ih := pre_snoc pre L x
    simp only [List.cons_append, List.isPrefixOf, ih, List.length_cons, List.getElem?_cons_succ, Bool.and_assoc]

structure Ea5 (n5 : Nat) (w5 : World) (bw ba bt br bo : Nat) (Vw : Value) (o : Int) (r : Bool) (k c : Nat) (W : World) : Prop where
  below : Below n5 w5 W
  n : bo < n5 ∧ n5 ≤ bw ∧ n5 ≤ ba ∧ n5 ≤ bt ∧ n5 ≤ br ∧ ba ≠ bt
  cw : Blk W bw 39 #[Vw]
  ca : Blk W ba 3 #[.int .i64 k]
  ct : Blk W bt 3 #[.int .i64 c]
  cr : Blk W br 4 #[.bool r]
  co : Blk W bo 5 #[.int .u8 o]
section
variable {n5 bw ba bt br bo k c : Nat} {w5 W : World} {Vw : Value} {o : Int} {r : Bool}
theorem Ea5.setR (E : Ea5 n5 w5 bw ba bt br bo Vw o r k c W) (r' : Bool) : Ea5 n5 w5 bw ba bt br bo Vw o r' k c (W.setCell ⟨br, 0, none⟩ (.bool r')) :=
  ⟨E.below.setCell (p := ⟨br, 0, none⟩) (by have := E.n; simp; omega) _, E.n, E.cw.far (E.cw.ne_ E.cr (by decide)) _, E.ca.far (E.ca.ne_ E.cr (by decide)) _, E.ct.far (E.ct.ne_ E.cr (by decide)) _, E.cr.set_ 0 _, E.co.far (E.co.ne_ E.cr (by decide)) _⟩
theorem Ea5.setA (E : Ea5 n5 w5 bw ba bt br bo Vw o r k c W) (k' : Nat) : Ea5 n5 w5 bw ba bt br bo Vw o r k' c (W.setCell ⟨ba, 0, none⟩ (.int .i64 k')) :=
  ⟨E.below.setCell (p := ⟨ba, 0, none⟩) (by have := E.n; simp; omega) _, E.n, E.cw.far (E.cw.ne_ E.ca (by decide)) _, E.ca.set_ 0 _, E.ct.far (Ne.symm E.n.2.2.2.2.2) _, E.cr.far (E.cr.ne_ E.ca (by decide)) _, E.co.far (E.co.ne_ E.ca (by decide)) _⟩
theorem Ea5.setT (E : Ea5 n5 w5 bw ba bt br bo Vw o r k c W) (c' : Nat) : Ea5 n5 w5 bw ba bt br bo Vw o r k c' (W.setCell ⟨bt, 0, none⟩ (.int .i64 c')) :=
  ⟨E.below.setCell (p := ⟨bt, 0, none⟩) (by have := E.n; simp; omega) _, E.n, E.cw.far (E.cw.ne_ E.ct (by decide)) _, E.ca.far E.n.2.2.2.2.2 _, E.ct.set_ 0 _, E.cr.far (E.cr.ne_ E.ct (by decide)) _, E.co.far (E.co.ne_ E.ct (by decide)) _⟩
end
theorem pick_set {B n₀ g : Nat} {t : TypeId} {cs : Array Value} {W : World} (h : Blk W g t cs) (ht : 33 ≠ t) (h0 : n₀ ≤ g) (h1 : g < B) (v : Value) : PickKeep B n₀ W (W.setCell ⟨g, 0, none⟩ v) :=
  ⟨⟨(Below.refl _ _).setCell (p := ⟨g, 0, none⟩) h0 _, fun _ _ hb => hb.far (hb.ne_ h ht) _⟩, fun g' o' hg' ho' => by
    have hlt := lt_size ho'
    exact ((grownBy_setCell' W g v).block g' hlt (fun e => by injection e with e; omega)).trans ho'⟩
theorem PickKeep.trans {B n₀ : Nat} {X Y Z : World} (h : PickKeep B n₀ X Y) (k : PickKeep B n₀ Y Z) : PickKeep B n₀ X Z := ⟨h.pk.trans k.pk, fun g o hg ho => k.own g o hg (h.own g o hg ho)⟩

set_option maxRecDepth 100000 in
set_option maxHeartbeats 2000000 in
theorem ea1_in (F : Fence) (n : Nat) (h : F.fn 21) (hro : F.round = none) (n5 bw ba bt br bo c B lw cw : Nat) (w5 W : World) (Aw : Option Addr) (o : Int) (L pre : List Int) (x : Int) (l : Nat)
    (E : Ea5 n5 w5 bw ba bt br bo (.slice Aw lw cw) o (pre.isPrefixOf L) pre.length c W) (ho : 0 ≤ o ∧ o ≤ 255) (hB : bw < B ∧ ba < B ∧ bt < B ∧ br < B) (hL : Sl w5 n5 1 Aw lw (L.map intV)) (hlen : L.length = lw) (hk : pre.length < 60000) (hc : c ≤ pre.length) :
    CallsIn (F.inRound l) n Tryd.prog 21 (#[.int .i64 x] ++ #[.pointer (some ⟨br, 0, none⟩), .pointer (some ⟨ba, 0, none⟩), .pointer (some ⟨bw, 0, none⟩), .pointer (some ⟨bo, 0, none⟩), .pointer (some ⟨bt, 0, none⟩)]) W
      fun e W' => ∃ b : Bool, e = .returned (.bool b) ∧ Ea5 n5 w5 bw ba bt br bo (.slice Aw lw cw) o ((pre ++ [x]).isPrefixOf L) (pre ++ [x]).length (c + if b then 1 else 0) W' ∧ PickKeep B n5 W W' := by
  refine CallsIn.inRound l (F := F) ?_
  refine callsIn_of_wp Tryd.func21 rfl h ?_ hro
  simp only [Tryd.ntmps21, List.size_toArray, List.length_cons, List.length_nil, Nat.reduceAdd, Nat.reduceSub, Array.replicate_succ, Array.replicate_zero, List.push_toArray, List.append_toArray, List.nil_append, List.cons_append]
  have hsn := pre_snoc pre L x
  have hpl : (pre ++ [x]).length = pre.length + 1 := by simp
  rw [hpl]
  have HSN := Lib.hid hsn
  have HL := Lib.hid hlen
  clear hsn hpl hlen
  obtain ⟨k, hk'⟩ : ∃ k, pre.length = k := ⟨_, rfl⟩
  rw [hk'] at E hk hc HSN ⊢
  have HK := Lib.hid hk'
  clear hk'
  have hcr := E.cr.cells
  have hca := E.ca.cells
  have hcw := E.cw.cells
  have hfr := E.cr.frees
  obtain ⟨R, hR⟩ : ∃ R, pre.isPrefixOf L = R := ⟨_, rfl⟩
  rw [hR] at E hcr HSN
  have hsl := hL.below E.below
  have harms : (R = false) ∨ (R = true ∧ ¬ k < lw) ∨ (R = true ∧ k < lw ∧ L[k]? = some x) ∨ (R = true ∧ k < lw ∧ ∃ y, L[k]? = some y ∧ y ≠ x) := by
    cases R
    · exact .inl rfl
    · by_cases h1 : k < lw
      · obtain ⟨y, hy⟩ : ∃ y, L[k]? = some y := ⟨_, List.getElem?_eq_getElem (by rw [HL.out]; exact h1)⟩
        by_cases h2 : y = x
        · exact .inr (.inr (.inl ⟨rfl, h1, by rw [hy, h2]⟩))
        · exact .inr (.inr (.inr ⟨rfl, h1, y, hy, h2⟩))
      · exact .inr (.inl ⟨rfl, h1⟩)
  clear hR
  rcases harms with rfl | ⟨rfl, h1⟩ | ⟨rfl, h1, h2⟩ | ⟨rfl, h1, y, h2, h3⟩
  case' inl =>
    have hres : Hid ((pre ++ [x]).isPrefixOf L = false) := Lib.hid (by rw [HSN.out]; rfl)
    clear HSN hsl
    gi_upto_region 2 with fail
    have E1 := E.setR false
    have K1 := pick_set (B := B) (n₀ := n5) E.cr (by decide) (by have := E.n; omega) hB.2.2.2 (.bool false)
    generalize (W.setCell ⟨br, 0, none⟩ (.bool false)) = W1 at *
  case' inr.inl =>
    have hno : L[k]? = none := List.getElem?_eq_none (by rw [HL.out]; omega)
    have hres : Hid ((pre ++ [x]).isPrefixOf L = false) := Lib.hid (by rw [HSN.out, hno]; rfl)
    clear HSN hsl hno
    gi_upto_region 2 with fail
    have E1 := E.setR false
    have K1 := pick_set (B := B) (n₀ := n5) E.cr (by decide) (by have := E.n; omega) hB.2.2.2 (.bool false)
    generalize (W.setCell ⟨br, 0, none⟩ (.bool false)) = W1 at *
  case' inr.inr.inl =>
    have hres : Hid ((pre ++ [x]).isPrefixOf L = true) := Lib.hid (by rw [HSN.out, h2]; simp)
    have g1 := int_at hsl h1 h2
    have i1 := hsl.idx (P := Tryd.prog) (c := cw) Tryd.underlying39 intSz h1
    simp only [Nat.mul_one] at g1 i1
    clear HSN hsl h2
    gi_upto_region 2 with fail
    have E1 := E.setR true
    have K1 := pick_set (B := B) (n₀ := n5) E.cr (by decide) (by have := E.n; omega) hB.2.2.2 (.bool true)
    generalize (W.setCell ⟨br, 0, none⟩ (.bool true)) = W1 at *
  case' inr.inr.inr =>
    have hres : Hid ((pre ++ [x]).isPrefixOf L = false) := Lib.hid (by rw [HSN.out, h2]; simp [h3])
    have g1 := int_at hsl h1 h2
    have i1 := hsl.idx (P := Tryd.prog) (c := cw) Tryd.underlying39 intSz h1
    simp only [Nat.mul_one] at g1 i1
    have e3 : (y == x) = false := beq_eq_false_iff_ne.2 h3
    clear HSN hsl h2 h3
    gi_upto_region 2 with fail
    have E1 := E.setR false
    have K1 := pick_set (B := B) (n₀ := n5) E.cr (by decide) (by have := E.n; omega) hB.2.2.2 (.bool false)
    generalize (W.setCell ⟨br, 0, none⟩ (.bool false)) = W1 at *
  all_goals
    clear hcr hca hcw hfr
    have hca := E1.ca.cells
    have hfa := E1.ca.frees
    gi_upto_region 3 with fail
    have E2 : Ea5 n5 w5 bw ba bt br bo (.slice Aw lw cw) o _ (k + 1) c (W1.setCell ⟨ba, 0, none⟩ (.int .i64 ((k : Int) + 1))) := E1.setA (k + 1)
    have K2 := K1.trans (pick_set (B := B) (n₀ := n5) E1.ca (by decide) (by have := E1.n; omega) hB.2.1 (.int .i64 ((k : Int) + 1)))
    generalize (W1.setCell ⟨ba, 0, none⟩ (.int .i64 ((k : Int) + 1))) = W2 at *
    clear hca hfa E1 K1
    have hca := E2.ca.cells
    have hco := E2.co.cells
    have h2o : ((2 : Int) + o == 0) = false := beq_eq_false_iff_ne.2 (by omega)
    obtain ⟨is, his⟩ : ∃ is : Bool, ((((k : Int) + 1) % (2 + o)) == 0) = is := ⟨_, rfl⟩
    have hct := E2.ct.cells
    have hft := E2.ct.frees
    cases is
    · gi_wp2
      go_ret
      exact ⟨false, rfl, by rw [hres.out]; exact E2, K2⟩
    · gi_wp2
      go_ret
      have E3 : Ea5 n5 w5 bw ba bt br bo (.slice Aw lw cw) o _ (k + 1) (c + 1) (W2.setCell ⟨bt, 0, none⟩ (.int .i64 ((c : Int) + 1))) := E2.setT (c + 1)
      have K3 := K2.trans (pick_set (B := B) (n₀ := n5) E2.ct (by decide) (by have := E2.n; omega) hB.2.2.1 (.int .i64 ((c : Int) + 1)))
      exact ⟨true, rfl, by rw [hres.out]; exact E3, K3⟩
end Go.Proofs.YtiihhpmgfmiacaaDoor
