/- Contract of lin's key.
   Conditions: the table of powers of ten lies as laid; at most 1000 items. -/
import Derived.Test.YtboommppikfgnaaDoorLinFun3
import Derived.Test.YtboommppikfgnaaDoorSLin
import Derived.Test.YtboommppikfgnaaDoorSRef3
import Derived.Laws.IdiomStrings
import Derived.Lib.ItoaLen
import Derived.Lib.OthersKept
namespace Go.Proofs.YtboommppikfgnaaDoor
open Go Go.RowKit

/-- what key tells -/
def keyL (P : Nat) (items : List Int) : List UInt8 := Lib.decDigits P ++ items.flatMap fun x => 32 :: Lib.itoa x
theorem keyL_snoc (P : Nat) (items : List Int) (k : Nat) (x : Int) (h : items[k]? = some x) : keyL P (items.take (k + 1)) = keyL P (items.take k) ++ 32 :: Lib.itoa x := by
  unfold keyL; rw [take_one items k x h, List.flatMap_append]; simp
theorem keyL_len (P : Nat) (hP : P < 18446744073709551616) : ∀ items : List Int, (∀ x ∈ items, 0 ≤ x ∧ x ≤ 9223372036854775807) → (keyL P items).length ≤ 20 + items.length * 22 := by
  intro items hi
  unfold keyL
  have h1 : (Lib.decDigits P).length ≤ 20 := by
    rw [Lib.decDigits_length]
    rcases Nat.lt_or_ge 20 (Lib.nDigits P) with h | h
    · have := Lib.nDigits_pos P
      have hp : 10 ^ (Lib.nDigits P - 1) ≤ P := by
        rcases Nat.lt_or_ge P (10 ^ (Lib.nDigits P - 1)) with h2 | h2
        · have aux : ∀ (k u : Nat), u < 10 ^ (k + 1) → Lib.nDigits u ≤ k + 1 := by
            intro k
            induction k with
            | zero => intro u hu; rw [Lib.nDigits_small (by simpa using hu)]; omega
            | succ k ih =>
              intro u hu
              by_cases h1 : u < 10
              · rw [Lib.nDigits_small h1]; omega
              · rw [Lib.nDigits_big h1]
                rw [Nat.pow_succ] at hu
                have := ih (u / 10) (by omega)
                omega
          have := aux (Lib.nDigits P - 2) P (by rw [show Lib.nDigits P - 2 + 1 = Lib.nDigits P - 1 by omega]; exact h2)
          omega
        · exact h2
      have h20 : 10 ^ 20 ≤ 10 ^ (Lib.nDigits P - 1) := Nat.pow_le_pow_right (by omega) (by omega)
      omega
    · exact h
  have h2 : (items.flatMap fun x => 32 :: Lib.itoa x).length ≤ items.length * 22 := by
    clear h1
    induction items with
    | nil => simp
    | cons x l ih =>
      have := ih (fun y hy => hi y (List.mem_cons_of_mem _ hy))
      have hx := hi x (List.mem_cons_self ..)
      have := Lib.itoa_length_le x (by omega) (by omega)
      simp only [List.flatMap_cons, List.length_append, List.length_cons, Nat.add_mul]; omega
  rw [List.length_append]; omega
theorem info_u8 : (Tryd.prog.info? 5).map (fun i => (i.zero, i.size, i.bytes)) = some (some (.int .u8 0), 1, 1) := by kernel_rfl
theorem byteCells_app (a b : List UInt8) : Lib.byteCells (a ++ b) = Lib.byteCells a ++ Lib.byteCells b := by simp [Lib.byteCells]
theorem byteCells_len (a : List UInt8) : (Lib.byteCells a).length = a.length := by simp [Lib.byteCells]

/-- an own row of another type stays -/
theorem own_others {w w' : World} {base : Nat} {e t : TypeId} {size n : Nat} {v : Value} {xs : List Value} (h : w.ownsRow base e size v n xs) (hk : Lib.OthersKept t none w w') (ht : e ≠ t) : w'.ownsRow base e size v n xs := by
  refine ⟨h.1, ?_⟩
  rcases h.2 with hn | ⟨g, cap, cur, rfl, hbg, hgc, rest⟩
  · exact .inl hn
  · exact .inr ⟨g, cap, cur, rfl, hbg, hk g _ hgc (by simp) (fun c fz e1 => by injection e1 with _ e1; exact ht e1), rest⟩
theorem own_apart {w w' : World} {base b2 : Nat} {e t : TypeId} {size s2 n n2 : Nat} {v v2 : Value} {xs ys : List Value} (h : w.ownsRow base e size v n xs) (h2 : w.ownsRow b2 t s2 v2 n2 ys) (hg : w.grownBy w' v2.ownBlock) (ht : e ≠ t) : w'.ownsRow base e size v n xs := by
  refine ⟨h.1, ?_⟩
  rcases h.2 with hn | ⟨g, cap, cur, rfl, hbg, hgc, rest⟩
  · exact .inl hn
  · refine .inr ⟨g, cap, cur, rfl, hbg, (hg.block g (lt_size hgc) (fun e1 => ?_)).trans hgc, rest⟩
    rcases h2.2 with ⟨rfl, -⟩ | ⟨g', cap', cur', rfl, -, hgc', -⟩
    · cases e1
    · injection e1 with e1
      subst e1
      rw [hgc'] at hgc
      injection hgc with hgc
      injection hgc with _ e2
      exact ht e2.symm
theorem app_uint (P : Nat) (hP : P < 18446744073709551616) (w : World) (htab : Lib.TabIs Tryd.prog w "internal/strconv.uint64pow10" .u64 Lib.pow10Tab) :
    Calls Tryd.prog 57 #[.slice none 0 0, .int .u64 P, .int .i64 10] w fun e w' => ∃ v, e = .returned v ∧ w'.ownsRow w.heap.size 5 1 v (Lib.decDigits P).length (Lib.byteCells (Lib.decDigits P)) ∧ Below w.heap.size w w' := by
  have key := Any.internal_strconv_AppendUint_10 Tryd.laysAppUint w.heap.size 0 P hP (.slice none 0 0) [] w (World.ownsRow_nil _ _ _ _) (Nat.le_refl _) (by omega) htab
  go_enter Tryd.func57, Tryd.ntmps57
  go_wp2_with fail
  refine key.mono ?_
  rintro e w1 ⟨v, rfl, ho, hb, -⟩
  rw [Nat.zero_add, List.nil_append] at ho
  go_wp2_with fail
  go_ret
  exact ⟨v, rfl, ho, hb⟩
theorem app_int (B n : Nat) (x : Int) (h0 : -9223372036854775808 ≤ x) (h1 : x ≤ 9223372036854775807) (v : Value) (xs : List Value) (w : World) (hown : w.ownsRow B 5 1 v n xs) (hB : B ≤ w.heap.size) (hn : n + 21 ≤ 140737488355328)
    (htab : Lib.TabBelow Tryd.prog B w "internal/strconv.uint64pow10" .u64 Lib.pow10Tab) :
    Calls Tryd.prog 58 #[v, .int .i64 x, .int .i64 10] w fun e w' => ∃ v', e = .returned v' ∧ w'.ownsRow B 5 1 v' (n + (Lib.itoa x).length) (xs ++ Lib.byteCells (Lib.itoa x)) ∧ Below B w w' ∧ Lib.OthersKept 5 none w w' := by
  refine (Any.strconv_AppendInt_10 Tryd.laysAppInt B n x h0 h1 v xs w hown hB hn htab).mono ?_
  rintro e w' ⟨v', he, ho, hb, hk⟩
  exact ⟨v', he, ho, hb, hk⟩

set_option maxRecDepth 100000 in
set_option maxHeartbeats 3200000 in
theorem lin_key {Z : Nat → Prop} {b : Nat} {sh : Int} {items : List Int} (P : Nat) (hP : P < 18446744073709551616) (w : World) (h : SAt w Z b sh items) (hl : items.length ≤ 1000) (hi : ∀ x ∈ items, 0 ≤ x ∧ x ≤ 9223372036854775807)
    (htab : ∀ w', Below w.heap.size w w' → Lib.TabIs Tryd.prog w' "internal/strconv.uint64pow10" .u64 Lib.pow10Tab) :
    Calls Tryd.prog 46 #[.int .u64 P, .pointer (some ⟨b, 0, none⟩)] w fun e w' => e = .returned (.string ⟨(keyL P items).toArray⟩) ∧ Below w.heap.size w w' := by
  obtain ⟨iP, hiP, zP, sP, bP⟩ := info_parts info_u8
  have hau := app_uint P hP w (htab w (Below.refl _ _))
  have HT := Lib.hid htab
  have HI := Lib.hid hi
  clear htab
  go_enter Tryd.func46, Tryd.ntmps46
  go_wp2_with fail
  refine hau.mono ?_
  rintro e w1 ⟨v1, rfl, ho1, hb1⟩
  have hs1 := h.step' hb1
  clear hau
  go_wp2_with fail
  refine (bag_Items hs1 hl).mono ?_
  rintro e w2 ⟨vi, rfl, hoi, hb2⟩
  have hb02 := hb1.trans (hb2.mono hb1.size)
  have ho2 := own_step ho1 hb2
  obtain ⟨Ai, ci, rfl, -, -, -⟩ := own_form hoi
  clear ho1
  go_wp2_with fail
  go_loopw [5, 15] (fun bv i wr => ∃ (k : Nat) (bs : List UInt8), k ≤ items.length ∧ i = .int .i64 k ∧ bs = keyL P (items.take k) ∧ wr.ownsRow w.heap.size 5 1 bv bs.length (Lib.byteCells bs) ∧ Below w.heap.size w wr ∧ wr.ownsRow w1.heap.size 3 1 (.slice Ai items.length ci) items.length (ints items)) (fun _ i _ => items.length - (intOf i).toNat)
  case atStart => exact ⟨0, keyL P [], by omega, rfl, by simp, by unfold keyL; simpa using ho2, hb02, hoi⟩
  case round =>
    obtain ⟨k, bs, hk, rfl, hbs, hown, hbr, howi⟩ := hrel
    have hsir := Sl.of_own howi
    have hbl : bs.length ≤ 20 + k * 22 := by
      rw [hbs]
      have := keyL_len P hP (items.take k) (fun x hx => HI.out x (List.mem_of_mem_take hx))
      rw [List.length_take] at this
      have : min k items.length * 22 ≤ k * 22 := Nat.mul_le_mul_right _ (by omega)
      omega
    have hbs' := hbr.size
    by_cases hlt : k < items.length
    · obtain ⟨x, hx⟩ : ∃ x, items[k]? = some x := ⟨_, List.getElem?_eq_getElem hlt⟩
      have hxr := HI.out x (List.mem_of_getElem? hx)
      have hsn := keyL_snoc P items k x hx
      rw [← hbs] at hsn
      have hidx := hsir.idx (P := Tryd.prog) (c := ci) Tryd.underlying29 intSz hlt
      have g1 := RowI.at_ hsir hlt hx
      simp only [Nat.mul_one] at g1 hidx
      have HSN := Lib.hid hsn
      have HSI := Lib.hid hsir
      have hown4 := hown.alloc (.cells #[.int .u8 32] 5)
      clear hsn hx hbs hsir
      go_wp2_with (at_builtin; refine wpList_append_lies _ rfl _ _ _ rfl w.heap.size 5 iP _ 1 1 Tryd.underlying118 hiP zP sP bP rfl (by omega) _ bs.length (Lib.byteCells bs) rfl hown4 ⟨wr.heap.size, 0, none⟩ 1 1 [.int .u8 32] rfl rfl (World.news_of_block (heap_alloc_new wr _)) (by simp [Value.oneCell']) (by omega) (by unfold maxLen; omega) (by omega) (by simp; omega) (wr.heap.size + 1) (by simp) ?_; intro g cap w9 hown9 hgrow hat hlt9)
      have hb9' : Below w.heap.size wr w9 := ((Below.refl _ wr).alloc (by omega) _).grown hgrow (by simp; omega) (fun g0 h0 => (own_at hown g0 h0).1)
      have hb9 : Below w.heap.size w w9 := (hbr.alloc (by omega) _).grown hgrow (by simp; omega) (fun g0 h0 => (own_at hown g0 h0).1)
      have howi9 := own_apart (howi.alloc (.cells #[.int .u8 32] 5)) hown4 hgrow (by decide)
      have hai := app_int w.heap.size (bs.length + 1) x (by omega) (by omega) _ _ w9 hown9 hb9.size (by omega) (fun w' hb' => HT.out w' (hb9.trans hb'))
      clear g1 hidx
      refine hai.mono ?_
      rintro e w10 ⟨v10, rfl, ho10, hb10, hk10⟩
      have howi10 := own_others howi9 hk10 (by decide)
      have hcat : Lib.byteCells bs ++ [Value.int .u8 32] ++ Lib.byteCells (Lib.itoa x) = Lib.byteCells (bs ++ 32 :: Lib.itoa x) := by simp [Lib.byteCells]
      have hlen : bs.length + 1 + (Lib.itoa x).length = (bs ++ 32 :: Lib.itoa x).length := by simp; omega
      rw [hcat, hlen] at ho10
      have HO := Lib.hid ho10
      clear hai hcat hlen ho10
      go_wp2_with fail
      go_roundw
      case rel => exact ⟨k + 1, bs ++ 32 :: Lib.itoa x, by omega, by go_num, HSN.out.symm, HO.out, hb9.trans hb10, howi10⟩
      case measure => simp [intOf]; omega
    · obtain rfl : k = items.length := by omega
      rw [List.take_length] at hbs
      have hpos : 0 < bs.length := by
        rw [hbs]
        unfold keyL
        rw [List.length_append, Lib.decDigits_length]
        have := Lib.nDigits_pos P
        omega
      obtain ⟨g, cap, rfl, hg1, hg2⟩ := hown.form hpos
      have hsb := Sl.of_own hown
      have hconv := run_convert_bytes_back (P := Tryd.prog) wr 118 9 5 ⟨g, 0, none⟩ cap bs Tryd.underlying118 Tryd.underlying5 Tryd.underlying9 (fun j hj => by
        have := hsb.at_ (i := 0) hj (by omega)
        rw [Nat.mul_one, Nat.add_zero, Nat.add_zero] at this
        simp only [ablk, aoff, Lib.byteCells, List.getElem?_map, List.getElem?_eq_getElem hj, Option.map_some] at this
        unfold Addr.add
        split
        · rename_i h0; subst h0; simpa using this
        · simpa using this)
      have HB := Lib.hid hbs
      clear hbs hsb hpos
      go_wp2_with fail
      go_ret
      exact ⟨by rw [← HB.out]; rfl, hbr⟩
end Go.Proofs.YtboommppikfgnaaDoor
