/- The library's slices.Insert, Delete, BinarySearch, Equal, Clone, Contains at rows of ints of someone's own.
   Conditions: at most 100000 elements. -/
import Derived.Test.YtboommppikfgnaaDoorSMem
import Derived.Test.YtboommppikfgnaaDoorSShelf
import Derived.Lib.RowBridge
import Derived.Lib.SlicesSearch
import Derived.WalkKit
import Derived.Deep.LoopGhost
import Derived.Deep.Quiet
namespace Go.Proofs.YtboommppikfgnaaDoor
open Go Go.RowKit Go.Lib

theorem Blk.sets {g : Nat} {t : TypeId} : ∀ (vs : List Value) (o : Nat) (w : World) (cs : Array Value), Blk w g t cs → ∃ cs', Blk (w.setCells g o vs) g t cs' ∧ cs'.size = cs.size
  | [], _, _, cs, h => ⟨cs, h, rfl⟩
  | v :: r, o, w, cs, h => by
    obtain ⟨cs', h1, h2⟩ := Blk.sets r (o + 1) _ _ (h.set_ o v)
    exact ⟨cs', h1, by simpa using h2⟩
theorem grown_sets (g : Nat) : ∀ (vs : List Value) (o : Nat) (w : World), w.grownBy (w.setCells g o vs) (some g)
  | [], _, w => ⟨rfl, rfl, rfl, Nat.le_refl _, fun _ _ _ => rfl⟩
  | v :: r, o, w => by
    have h1 := grown_sets g r (o + 1) (w.setCell ⟨g, o, none⟩ v)
    refine World.grownBy.trans (b := w.setCell ⟨g, o, none⟩ v) ⟨rfl, rfl, rfl, by simp [World.setCell], fun k _ hk => Below.heap_setCell w ⟨g, o, none⟩ v k (fun e => hk (by rw [e]))⟩ h1
theorem own_of_cells {w : World} {base g cap n : Nat} {e : TypeId} {cs : Array Value} {xs : List Value} (h : Blk w g e cs) (hs : cs.size = cap) (hn : n ≤ cap) (hm : cap ≤ maxLen) (hl : xs.length = n) (hb : base ≤ g)
    (hc : ∀ j, j < n → w.cell? ⟨g, j, none⟩ = xs[j]?) : w.ownsRow base e 1 (.slice (some ⟨g, 0, none⟩) n cap) n xs := by
  refine ⟨by omega, .inr ⟨g, cap, cs, rfl, hb, h, hn, hm, by omega, ?_⟩⟩
  apply List.ext_getElem?
  intro j
  rw [Nat.mul_one, List.getElem?_take]
  by_cases hj : j < n
  · rw [if_pos hj, Array.getElem?_toList, ← h.cell j, hc j hj]
  · rw [if_neg hj, List.getElem?_eq_none (by omega)]
theorem own_rowcells {w : World} {base g cap n : Nat} {e : TypeId} {xs : List Value} (h : w.ownsRow base e 1 (.slice (some ⟨g, 0, none⟩) n cap) n xs) :
    ∃ cs, Blk w g e cs ∧ cs.size = cap ∧ n ≤ cap ∧ cap ≤ maxLen ∧ ∀ j, j < n → w.cell? ⟨g, j, none⟩ = xs[j]? := by
  rcases h.2 with ⟨h0, _⟩ | ⟨g', cap', cur, hv, hbg, hg, hnc, hcm, hcs, htake⟩
  · cases h0
  · injection hv with hv hv1 hv2
    injection hv with hv
    injection hv with hv
    subst hv; subst hv2
    refine ⟨cur, hg, by omega, hnc, hcm, fun j hj => ?_⟩
    rw [Blk.cell hg j, ← htake, List.getElem?_take, if_pos (by omega), Array.getElem?_toList]
theorem insAt_len (l : List Int) (i : Nat) (x : Int) (hi : i ≤ l.length) : (insAt l i x).length = l.length + 1 := by
  unfold insAt; simp; omega
theorem insAt_get (l : List Int) (i : Nat) (x : Int) (hi : i ≤ l.length) (j : Nat) : (insAt l i x)[j]? = if j < i then l[j]? else if j = i then some x else l[j - 1]? := by
  unfold insAt
  by_cases h1 : j < i
  · rw [if_pos h1, List.getElem?_append_left (by simp; omega), List.getElem?_take, if_pos h1]
  · rw [if_neg h1, List.getElem?_append_right (by simp; omega), List.length_take, Nat.min_eq_left hi]
    by_cases h2 : j = i
    · subst h2; simp
    · rw [if_neg h2, show j - i = (j - i - 1) + 1 by omega, List.getElem?_cons_succ, List.getElem?_drop]
      congr 1; omega
theorem insAt_end (l : List Int) (x : Int) : insAt l l.length x = l ++ [x] := by simp [insAt]
theorem shape_blk {w : World} {g : Nat} {t : TypeId} {cs : Array Value} (h : Blk w g t cs) : w.shape? g = some (t, cs.size) := by
  unfold Blk at h
  simp [World.shape?, h]

theorem own_new (w : World) (e : TypeId) (xs : List Value) (zs : Array Value) (cap n : Nat) (hn : xs.length = n) (hs : n + zs.size = cap) (hm : cap ≤ maxLen) :
    (w.alloc (.cells (xs.toArray ++ zs) e)).ownsRow 0 e 1 (.slice (some ⟨w.heap.size, 0, none⟩) n cap) n xs := by
  refine ⟨by omega, .inr ⟨w.heap.size, cap, _, rfl, Nat.zero_le _, heap_alloc_new w _, by omega, hm, by simp; omega, ?_⟩⟩
  simp [hn]
theorem grown_drew {w w' : World} {row : Option Nat} (h : w.drew.grownBy w' row) : w.grownBy w' row := ⟨h.os, h.tape, h.output, h.size, h.block⟩
theorem grown_drewN {w w' : World} {row : Option Nat} (n : Nat) (h : (w.drewN n).grownBy w' row) : w.grownBy w' row := ⟨h.os, h.tape, h.output, h.size, h.block⟩
theorem ints_ins (l : List Int) (i : Nat) (x : Int) (hi : i ≤ l.length) (j : Nat) : (ints (insAt l i x))[j]? = if j < i then (ints l)[j]? else if j = i then some (.int .i64 x) else (ints l)[j - 1]? := by
  rw [ints_at, insAt_get l i x hi]
  by_cases h1 : j < i
  · rw [if_pos h1, if_pos h1, ints_at]
  · rw [if_neg h1, if_neg h1]
    by_cases h2 : j = i
    · rw [if_pos h2, if_pos h2]; rfl
    · rw [if_neg h2, if_neg h2, ints_at]

set_option maxRecDepth 100000 in
theorem ins_own (v : Value) (i : Nat) (l : List Int) (x : Int) (vb : Nat) (w : World) (h : Own w v l) (hi : i ≤ l.length) (hl : l.length ≤ 100000) (hx : Blk w vb 3 #[.int .i64 x]) (hne : v.ownBlock ≠ some vb) :
    Calls Tryd.prog 73 #[v, .int .i64 (i : Int), .slice (some ⟨vb, 0, none⟩) 1 1] w fun e w' =>
      ∃ v', e = .returned v' ∧ Own w' v' (insAt l i x) ∧ w.grownBy w' v.ownBlock ∧ (∀ g, v'.ownBlock = some g → v.ownBlock = some g ∨ w.heap.size ≤ g) := by
  have hxc : ∀ j u, [Value.int .i64 x][j]? = some u → w.cell? ⟨vb, 0 + j, none⟩ = some u := by
    intro j u hu
    cases j with
    | zero => simp at hu; subst hu; exact hx.cell 0
    | succ j => simp at hu
  have hx1 : ∀ u ∈ [Value.int .i64 x], u.oneCell' = true := by intro u hu; simp at hu; subst hu; rfl
  have hzc : ∀ k, (Builtin.zeroCells (Value.int .i64 0).cells k).size = k := fun k => by rw [size_zeroCells]; simp [Value.cells]
  rcases h.2 with ⟨rfl, hn⟩ | ⟨g, cap, cur, rfl, -, hg, hnc, hcm, hcs, htake⟩
  · -- nil
    have hl0 : l = [] := List.eq_nil_of_length_eq_zero hn
    subst hl0
    obtain rfl : i = 0 := by simpa using hi
    have hcon := Any2.slices_Insert_int_end_grow Tryd.laysInsert none 0 0 vb 0 1 1 [] [.int .i64 x] w (by omega) (by omega) (by omega) (by omega) rfl rfl (fun _ => rfl) (fun a ha => by cases ha) hxc hx1
    change Calls Tryd.prog 73 _ _ _ at hcon
    refine hcon.mono ?_
    rintro e w' ⟨rfl, rfl⟩
    have g1 := grownCap_ge w (0 + 1) 0 3
    have g2 := grownCap_le_maxLen w (0 + 1) 0 3 (by simp [maxLen])
    refine ⟨_, rfl, ?_, ?_, ?_⟩
    · exact own_new w.drew 3 [.int .i64 x] _ _ 1 rfl (by rw [hzc]; exact Nat.add_sub_cancel' g1) g2
    · exact grown_drew (World.grownBy_alloc w.drew _ _)
    · intro g hg; injection hg with hg; exact .inr (by rw [← hg]; exact Nat.le_refl _)
  · have hc : ∀ j, j < l.length → w.cell? ⟨g, j, none⟩ = (ints l)[j]? := (own_rowcells h).choose_spec.2.2.2.2
    have hcs' : cur.size = cap := by omega
    have hblk : Blk w g 3 cur := hg
    have hvg : vb ≠ g := fun e => hne (by rw [e]; rfl)
    have h1c : ∀ u ∈ ints l, u.oneCell' = true := ints_one l
    have hcl := ints_len l
    have hcsx : ∀ j u, (ints l)[j]? = some u → w.cell? ⟨g, 0 + j, none⟩ = some u := fun j u hu => by
      rw [Nat.zero_add, hc j (by have := (List.getElem?_eq_some_iff.1 hu).1; omega)]; exact hu
    by_cases hroom : l.length + 1 ≤ cap
    · -- room
      by_cases hie : i = l.length
      · subst hie
        have hcon := Any2.slices_Insert_int_end_room Tryd.laysInsert g 0 l.length cap vb 0 1 1 [.int .i64 x] w (by omega) hroom (by unfold maxLen at hcm; omega) rfl
          (fun j hj => by rw [hblk.cell]; rw [Array.getElem?_eq_getElem (by omega)]; rfl) (fun j hj => hblk.frozen _) hxc hx1
        change Calls Tryd.prog 73 _ _ _ at hcon
        refine hcon.mono ?_
        rintro e w' ⟨rfl, rfl⟩
        obtain ⟨cs', hb', hs'⟩ := Blk.sets [.int .i64 x] (0 + l.length) w cur hblk
        refine ⟨_, rfl, ?_, grown_sets _ _ _ _, fun g' hg' => .inl hg'⟩
        unfold Own
        rw [insAt_len l _ x (Nat.le_refl _)]
        refine own_of_cells hb' (by omega) hroom hcm (by rw [ints_len, insAt_len l _ x (Nat.le_refl _)]) (Nat.zero_le _) (fun j hj => ?_)
        rw [ints_ins l _ x (Nat.le_refl _)]
        by_cases h1 : j < l.length
        · rw [if_pos h1, World.cell?_setCells_out g _ _ w _ (fun _ _ => .inl (by simp; omega))]; exact hc j h1
        · rw [if_neg h1, if_pos (by omega)]
          have := World.cell?_setCells_in g [.int .i64 x] (0 + l.length) w (fun k hk => by rw [hblk.cell]; rw [Array.getElem?_eq_getElem (by simp at hk; omega)]; rfl) 0 (by simp)
          rw [show j = 0 + l.length + 0 by omega]
          exact this
      · have hcon := Any2.slices_Insert_int_shift Tryd.laysInsert g 0 l.length cap i vb 0 1 1 (ints l) [.int .i64 x] w (by omega) (by omega) hroom (by unfold maxLen at hcm; omega) hvg hcl rfl hcsx
          (fun j hj => by rw [hblk.cell]; rw [Array.getElem?_eq_getElem (by omega)]; rfl) (fun j hj => hblk.frozen _) hxc h1c hx1 3 3 1 cap (shape_blk hx) (by rw [shape_blk hblk, hcs']) (by omega) (hx.frozen _) (hx.frozen _)
        change Calls Tryd.prog 73 _ _ _ at hcon
        refine hcon.mono ?_
        rintro e w' ⟨rfl, rfl⟩
        have hil : i < l.length := by omega
        obtain ⟨cs1, hb1, hs1⟩ := Blk.sets ((ints l).drop i) (0 + (i + 1)) w.drew cur hblk.drew
        obtain ⟨cs', hb', hs'⟩ := Blk.sets [.int .i64 x] (0 + i) _ _ hb1
        refine ⟨_, rfl, ?_, World.grownBy.trans (grown_drew (grown_sets g _ _ w.drew)) (grown_sets g _ _ _), fun g' hg' => .inl hg'⟩
        unfold Own
        rw [insAt_len l _ x hi]
        refine own_of_cells hb' (by omega) hroom hcm (by rw [ints_len, insAt_len l _ x hi]) (Nat.zero_le _) (fun j hj => ?_)
        rw [ints_ins l _ x hi]
        by_cases h1 : j < i
        · rw [if_pos h1, World.cell?_setCells_out g _ _ _ _ (fun _ _ => .inl (by simp; omega)), World.cell?_setCells_out g _ _ _ _ (fun _ _ => .inl (by simp; omega))]; exact hc j (by omega)
        · rw [if_neg h1]
          by_cases h2 : j = i
          · subst h2
            rw [if_pos rfl]
            have := World.cell?_setCells_in g [.int .i64 x] (0 + j) (w.drew.setCells g (0 + (j + 1)) ((ints l).drop j)) (fun k hk => by rw [hb1.cell]; rw [Array.getElem?_eq_getElem (by simp at hk; omega)]; rfl) 0 (by simp)
            rw [show (⟨g, j, none⟩ : Addr) = ⟨g, 0 + j + 0, none⟩ by simp]
            exact this
          · rw [if_neg h2, World.cell?_setCells_out g _ _ _ _ (fun _ _ => .inr (by simp; omega))]
            have hdl : ((ints l).drop i).length = l.length - i := by rw [List.length_drop, hcl]
            have := World.cell?_setCells_in g ((ints l).drop i) (0 + (i + 1)) w.drew (fun k hk => by rw [hblk.drew.cell]; rw [Array.getElem?_eq_getElem (by omega)]; rfl) (j - (i + 1)) (by omega)
            rw [show (⟨g, j, none⟩ : Addr) = ⟨g, 0 + (i + 1) + (j - (i + 1)), none⟩ by congr 1; omega, this, List.getElem_drop, List.getElem?_eq_getElem (by omega)]
            congr 2; omega
    · -- a new row
      have g1 := grownCap_ge w (l.length + 1) cap 3
      have g2 := grownCap_le_maxLen w (l.length + 1) cap 3 (by simp [maxLen]; omega)
      by_cases hie : i = l.length
      · subst hie
        have hcon := Any2.slices_Insert_int_end_grow Tryd.laysInsert (some ⟨g, 0, none⟩) l.length cap vb 0 1 1 (ints l) [.int .i64 x] w (by omega) hnc (by omega) (by omega) hcl rfl (fun h => by cases h)
          (fun a ha j u hu => by injection ha with ha; subst ha; rw [Addr.add_lit]; exact hcsx j u hu) hxc hx1
        change Calls Tryd.prog 73 _ _ _ at hcon
        refine hcon.mono ?_
        rintro e w' ⟨rfl, rfl⟩
        refine ⟨_, rfl, ?_, ?_, ?_⟩
        · unfold Own
          rw [insAt_len l _ x (Nat.le_refl _), insAt_end, ints_app]
          exact own_new w.drew 3 (ints l ++ [.int .i64 x]) _ _ (l.length + 1) (by simp [hcl]) (by rw [hzc]; exact Nat.add_sub_cancel' g1) g2
        · exact grown_drew (World.grownBy_alloc w.drew _ _)
        · intro g hg; injection hg with hg; exact .inr (by rw [← hg]; exact Nat.le_refl _)
      · have hil : i < l.length := by omega
        have hcon := Any2.slices_Insert_int_grow Tryd.laysInsert g 0 l.length cap i vb 0 1 1 (ints l) [.int .i64 x] w hil (by omega) hnc (by omega) (by omega) hcl rfl hcsx hxc h1c hx1
        change Calls Tryd.prog 73 _ _ _ at hcon
        refine hcon.mono ?_
        rintro e w' ⟨rfl, hw'⟩
        change w' = _ at hw'
        have hroom' : cap < l.length + 1 := by omega
        obtain ⟨ROW, hROW⟩ : ∃ ROW : Array Value, ROW = ((ints l).take i).toArray ++ Builtin.zeroCells (Value.int .i64 0).cells (l.length + 1 - i) ++ Builtin.zeroCells (Value.int .i64 0).cells (grownCap w (l.length + 1) cap 3 - (l.length + 1)) := ⟨_, rfl⟩
        have hRs : ROW.size = grownCap w (l.length + 1) cap 3 := by
          rw [hROW, Array.size_append, Array.size_append, hzc, hzc]
          simp [hcl]; omega
        have hRi : ∀ j, j < i → ROW[j]? = (ints l)[j]? := fun j hj => by
          rw [hROW, Array.append_assoc, Array.getElem?_append_left (by simp [hcl]; omega)]
          simp [hj]
        change w' = (((w.alloc (.cells (((ints l).take i).toArray ++ Builtin.zeroCells (Value.int .i64 0).cells (l.length + 1 - i) ++ Builtin.zeroCells (Value.int .i64 0).cells (grownCap w (l.length + 1) cap 3 - (l.length + 1))) 3)).drew.setCells w.heap.size i [.int .i64 x]).drew).setCells w.heap.size (i + 1) ((ints l).drop i) at hw'
        rw [← hROW] at hw'
        have hb0 : Blk (w.alloc (.cells ROW 3)).drew w.heap.size 3 ROW := Blk.new w 3 ROW
        obtain ⟨cs1, hb1, hs1⟩ := Blk.sets [.int .i64 x] i _ _ hb0
        obtain ⟨cs2, hb2, hs2⟩ := Blk.sets ((ints l).drop i) (i + 1) _ _ hb1.drew
        have hdl : ((ints l).drop i).length = l.length - i := by rw [List.length_drop, hcl]
        subst hw'
        refine ⟨_, rfl, ?_, ?_, ?_⟩
        · unfold Own
          rw [insAt_len l _ x hi]
          refine own_of_cells hb2 (by show cs2.size = grownCap w (l.length + 1) cap 3; omega) g1 g2 (by rw [ints_len, insAt_len l _ x hi]) (Nat.zero_le _) (fun j hj => ?_)
          rw [ints_ins l _ x hi]
          by_cases h1 : j < i
          · rw [if_pos h1, World.cell?_setCells_out _ _ _ _ _ (fun _ _ => .inl (by simp; omega)), World.cell?_drew, World.cell?_setCells_out _ _ _ _ _ (fun _ _ => .inl (by simp; omega)), hb0.cell, hRi j h1]
          · rw [if_neg h1]
            by_cases h2 : j = i
            · subst h2
              rw [if_pos rfl, World.cell?_setCells_out _ _ _ _ _ (fun _ _ => .inl (by simp)), World.cell?_drew]
              have := World.cell?_setCells_in w.heap.size [.int .i64 x] j (w.alloc (.cells ROW 3)).drew (fun k hk => by rw [hb0.cell]; rw [Array.getElem?_eq_getElem (by simp at hk; omega)]; rfl) 0 (by simp)
              exact this
            · rw [if_neg h2]
              have := World.cell?_setCells_in w.heap.size ((ints l).drop i) (i + 1) _ (fun k hk => by rw [hb1.drew.cell]; rw [Array.getElem?_eq_getElem (by omega)]; rfl) (j - (i + 1)) (by omega)
              rw [show (⟨w.heap.size, j, none⟩ : Addr) = ⟨w.heap.size, (i + 1) + (j - (i + 1)), none⟩ by congr 1; omega, this, List.getElem_drop, List.getElem?_eq_getElem (by omega)]
              congr 2; omega
        · have e1 : w.grownBy (w.alloc (.cells ROW 3)) (some g) := World.grownBy_alloc w _ _
          have k1 := grown_sets w.heap.size [.int .i64 x] i (w.alloc (.cells ROW 3)).drew
          have k2 := grown_sets w.heap.size ((ints l).drop i) (i + 1) ((w.alloc (.cells ROW 3)).drew.setCells w.heap.size i [.int .i64 x]).drew
          have hsz : (w.alloc (.cells ROW 3)).heap.size = w.heap.size + 1 := by simp
          refine ⟨k2.os.trans (k1.os.trans e1.os), k2.tape.trans (k1.tape.trans e1.tape), k2.output.trans (k1.output.trans e1.output), Nat.le_trans e1.size (Nat.le_trans k1.size k2.size), fun k hk hr => ?_⟩
          have ks := k1.size
          have ne : some k ≠ some w.heap.size := by simp; omega
          exact (k2.block k (Nat.lt_of_lt_of_le (by show k < (w.alloc (.cells ROW 3)).heap.size; omega) ks) ne).trans ((k1.block k (by show k < (w.alloc (.cells ROW 3)).heap.size; omega) ne).trans (e1.block k hk hr))
        · intro g hg; injection hg with hg; exact .inr (by rw [← hg]; exact Nat.le_refl _)

set_option maxRecDepth 100000 in
theorem del_own (v : Value) (i : Nat) (l : List Int) (w : World) (h : Own w v l) (hi : i < l.length) (j : Int) (hj : j = (i : Int) + 1) :
    Calls Tryd.prog 74 #[v, .int .i64 (i : Int), .int .i64 j] w fun e w' =>
      ∃ v', e = .returned v' ∧ Own w' v' (l.eraseIdx i) ∧ w.grownBy w' v.ownBlock ∧ (∀ g, v'.ownBlock = some g → v.ownBlock = some g) := by
  rcases h.2 with ⟨rfl, hn⟩ | ⟨g, cap, cur, rfl, -, hg, hnc, hcm, hcs, htake⟩
  · omega
  · have hc : ∀ j, j < l.length → w.cell? ⟨g, j, none⟩ = (ints l)[j]? := (own_rowcells h).choose_spec.2.2.2.2
    have hcs' : cur.size = cap := by omega
    have hblk : Blk w g 3 cur := hg
    have hH : Go.Sort.Holds (Value.int .i64) w g 0 l.toArray := by
      intro k hk
      simp at hk
      refine ⟨?_, hblk.frozen _⟩
      rw [Nat.zero_add, hc k hk, ints_at]
      simp [hk]
    have hcon := AnyG.slices_Delete_int Tryd.laysDelete g 0 cap i (i + 1) l w hH hnc (by unfold maxLen at hcm; omega) (by omega) (by omega)
    change Calls Tryd.prog 74 _ _ _ at hcon
    rw [hj]
    refine hcon.mono ?_
    rintro e w' ⟨rfl, q, rfl⟩
    have hys : (l.take i ++ l.drop (i + 1) ++ List.replicate (i + 1 - i) 0).length = l.toArray.size := by simp; omega
    rw [putRow_eq_setCells (Value.int .i64) w g 0 l.toArray _ q hH hys]
    obtain ⟨cs', hb', hs'⟩ := Blk.sets ((l.take i ++ l.drop (i + 1) ++ List.replicate (i + 1 - i) 0).map (Value.int .i64)) 0 (w.drewN q) cur (hblk.drewN q)
    have hel : (l.eraseIdx i).length = l.length - 1 := by rw [List.length_eraseIdx, if_pos hi]
    refine ⟨_, rfl, ?_, grown_drewN q (grown_sets _ _ _ _), fun g' hg' => hg'⟩
    unfold Own
    rw [hel, show l.length - (i + 1 - i) = l.length - 1 by omega]
    refine own_of_cells hb' (by omega) (by omega) hcm (by rw [ints_len, hel]) (Nat.zero_le _) (fun k hk => ?_)
    have := World.cell?_setCells_in g ((l.take i ++ l.drop (i + 1) ++ List.replicate (i + 1 - i) 0).map (Value.int .i64)) 0 (w.drewN q) (fun k hk => by
      rw [(hblk.drewN q).cell]; rw [Array.getElem?_eq_getElem (by rw [List.length_map, hys] at hk; simp at hk; omega)]; rfl) k (by rw [List.length_map, hys]; simp; omega)
    rw [Nat.zero_add] at this
    rw [this, ints_at, List.eraseIdx_eq_take_drop_succ, ← List.getElem?_eq_getElem, List.getElem?_map, List.getElem?_append_left (by simp; omega)]
theorem own_getD {w : World} {g cap : Nat} {l : List Int} (h : Own w (.slice (some ⟨g, 0, none⟩) l.length cap) l) : ∀ j, j < l.length → w.cell? ⟨g, 0 + j, none⟩ = some (.int .i64 (l.getD j 0)) := by
  obtain ⟨cs, _, _, _, _, hc⟩ := own_rowcells h
  intro j hj
  rw [Nat.zero_add, hc j hj, ints_at, List.getD, List.getElem?_eq_getElem hj]; rfl

/-- slices.Contains at a row that reads as a list -/
theorem contains_sl (A : Option Addr) (n c B : Nat) (l : List Int) (x : Int) (w : World) (h : Sl w B 1 A n (ints l)) (hl : n ≤ 100000) :
    Calls Tryd.prog 59 #[.slice A n c, .int .i64 x] w fun e w' => e = .returned (.bool (l.contains x)) ∧ w' = w := by
  have hn : l.length = n := by have := h.len; rw [ints_len] at this; omega
  rcases Nat.eq_zero_or_pos n with h0 | h0
  · subst h0
    have hl0 : l = [] := List.eq_nil_of_length_eq_zero hn
    subst hl0
    exact AnyG.slices_Contains_int_empty Tryd.laysContains A c x w
  · rw [h.adr h0]
    have hcon := AnyG.slices_Contains_int Tryd.laysContains (ablk A) (aoff A) n c l x w (by omega) (by omega) (fun j hj => by
      rw [h.cell j (by omega), ints_at, List.getD, List.getElem?_eq_getElem hj]; rfl)
    change Calls Tryd.prog 59 _ _ _ at hcon
    refine hcon.mono ?_
    rintro e w' ⟨rfl, rfl⟩
    exact ⟨by rw [← hn, List.take_length], rfl⟩

theorem less_int (x y : Int) (w : World) : Calls Tryd.prog 71 #[.int .i64 x, .int .i64 y] w fun e w' => e = .returned (.bool (decide (x < y))) ∧ w' = w := AnyG.cmp_Less_int2 { Tryd.laysSearch with } x y w
theorem isNaN_int (x : Int) (w : World) : Calls Tryd.prog 72 #[.int .i64 x] w fun e w' => e = .returned (.bool false) ∧ w' = w := AnyG.slices_isNaN_int2 { Tryd.laysSearch with } x w
theorem rises_at {l : List Int} (h : rises l) : ∀ a b, a ≤ b → b < l.length → l.getD a 0 ≤ l.getD b 0 := by
  refine Lib.sorted_at l l.length (Nat.le_refl _) ?_
  rw [List.take_length]
  exact h.imp (fun h => by omega)

set_option maxHeartbeats 1600000 in
set_option maxRecDepth 100000 in
/-- slices.BinarySearch at a row of someone's own: some place and some answer; the right ones, if the row rises -/
theorem search_own (v : Value) (l : List Int) (x : Int) (w : World) (h : Own w v l) (hl : l.length ≤ 100000) :
    Calls Tryd.prog 61 #[v, .int .i64 x] w fun e w' => ∃ (at_ : Nat) (there : Bool), e = .returned (.tuple #[.int .i64 (at_ : Int), .bool there]) ∧ at_ ≤ l.length ∧ (rises l → at_ = below l x ∧ there = l.contains x) ∧ Below w.heap.size w w' := by
  rcases h.2 with ⟨rfl, hn⟩ | ⟨g, cap, cur, rfl, -, hg, hnc, hcm, hcs, htake⟩
  · have hl0 : l = [] := List.eq_nil_of_length_eq_zero hn
    subst hl0
    go_enter Tryd.func61, Tryd.ntmps61
    go_wp2
    go_loopg [7, 8] 0 (fun g s7 s8 wr => s7 = .int .i64 0 ∧ s8 = .int .i64 0 ∧ wr = w)
    case atStart => exact ⟨rfl, rfl, rfl⟩
    case round =>
      obtain ⟨rfl, rfl, rfl⟩ := hrel
      go_wp2
      go_ret2
      exact ⟨0, false, rfl, Nat.zero_le _, fun _ => ⟨rfl, rfl⟩, Below.refl _ _⟩
  · have hc := own_getD h
    generalize hn : l.length = n at *
    have HN := Lib.hid hn
    have S : Hid (rises l → ∀ a b, a ≤ b → b < n → l.getD a 0 ≤ l.getD b 0) := fun hr => by have := rises_at hr; rwa [hn] at this
    clear hn h hg hcs htake
    go_enter Tryd.func61, Tryd.ntmps61
    go_wp2
    go_loopg [7, 8] n (fun g s7 s8 wr => ∃ lo hi q : Nat, s7 = .int .i64 lo ∧ s8 = .int .i64 hi ∧ lo ≤ hi ∧ hi ≤ n ∧ hi - lo ≤ g ∧ wr = w.drewN q ∧ Hid (rises l → (∀ t, t < lo → l.getD t 0 < x) ∧ (∀ t, hi ≤ t → t < n → x ≤ l.getD t 0)))
    case atStart => exact ⟨0, n, 0, rfl, rfl, Nat.zero_le _, Nat.le_refl _, by omega, rfl, fun _ => ⟨fun t ht => absurd ht (Nat.not_lt_zero _), fun t h1 h2 => by omega⟩⟩
    case round =>
      obtain ⟨lo, hi, q, rfl, rfl, hlh, hin, hg, rfl, I⟩ := hrel
      by_cases hlt : lo < hi
      · have cm : w.cell? ⟨g, (lo + hi) / 2, none⟩ = some (.int .i64 (l.getD ((lo + hi) / 2) 0)) := by have := hc ((lo + hi) / 2) (by omega); rwa [Nat.zero_add] at this
        clear hc
        generalize hy : l.getD ((lo + hi) / 2) 0 = y at cm
        have Y := Lib.hid hy
        clear hy
        by_cases hyx : y < x
        · go_wp2_with (first | (go_at_call 71; refine (less_int _ _ _).mono ?_; rintro e w' ⟨rfl, rfl⟩) | (go_at_call 72; refine (isNaN_int _ _).mono ?_; rintro e w' ⟨rfl, rfl⟩))
          go_roundg (hi - ((lo + hi) / 2 + 1))
          case measure => omega
          case rel =>
            refine ⟨(lo + hi) / 2 + 1, hi, _, by rw [show ((lo : Int) + (hi : Int)) / 2 + 1 = (((lo + hi) / 2 + 1 : Nat) : Int) by omega], rfl, by omega, hin, Nat.le_refl _, rfl, fun hr => ⟨fun t ht => ?_, (I.out hr).2⟩⟩
            have := S.out hr t ((lo + hi) / 2) (by omega) (by omega)
            rw [Y.out] at this
            omega
        · go_wp2_with (first | (go_at_call 71; refine (less_int _ _ _).mono ?_; rintro e w' ⟨rfl, rfl⟩) | (go_at_call 72; refine (isNaN_int _ _).mono ?_; rintro e w' ⟨rfl, rfl⟩))
          go_roundg ((lo + hi) / 2 - lo)
          case measure => omega
          case rel =>
            refine ⟨lo, (lo + hi) / 2, _, rfl, by rw [show ((lo : Int) + (hi : Int)) / 2 = (((lo + hi) / 2 : Nat) : Int) by omega], by omega, by omega, Nat.le_refl _, rfl, fun hr => ⟨(I.out hr).1, fun t ht htn => ?_⟩⟩
            have := S.out hr ((lo + hi) / 2) t ht htn
            rw [Y.out] at this
            omega
      · have : hi = lo := by omega
        subst this
        have E : Hid (rises l → below l x = hi ∧ l.contains x = decide (hi < n ∧ l.getD hi 0 = x)) := fun hr => by
          have := Lib.search_end l n hi x (by rw [HN.out]; exact Nat.le_refl _) hin (I.out hr).1 (I.out hr).2 (S.out hr)
          rw [show n = l.length from HN.out.symm, List.take_length] at this
          rw [show n = l.length from HN.out.symm]
          exact this
        by_cases hn : hi < n
        · have cl : w.cell? ⟨g, hi, none⟩ = some (.int .i64 (l.getD hi 0)) := by have := hc hi (by omega); rwa [Nat.zero_add] at this
          clear hc
          generalize hy : l.getD hi 0 = y at cl
          have Y := Lib.hid hy
          clear hy
          by_cases hyx : y = x
          · go_wp2_with (first | (go_at_call 71; refine (less_int _ _ _).mono ?_; rintro e w' ⟨rfl, rfl⟩) | (go_at_call 72; refine (isNaN_int _ _).mono ?_; rintro e w' ⟨rfl, rfl⟩))
            go_ret2
            refine ⟨hi, true, ?_, by omega, fun hr => ?_, below_drewN (Below.refl _ _) _⟩
            · first | rfl | simp [*]
            · obtain ⟨e1, e2⟩ := E.out hr
              exact ⟨e1.symm, by rw [e2, Y.out, decide_eq_true (show hi < n ∧ y = x from ⟨hn, hyx⟩)]⟩
          · go_wp2_with (first | (go_at_call 71; refine (less_int _ _ _).mono ?_; rintro e w' ⟨rfl, rfl⟩) | (go_at_call 72; refine (isNaN_int _ _).mono ?_; rintro e w' ⟨rfl, rfl⟩))
            go_ret2
            refine ⟨hi, false, ?_, by omega, fun hr => ?_, below_drewN (Below.refl _ _) _⟩
            · first | rfl | simp [*]
            · obtain ⟨e1, e2⟩ := E.out hr
              exact ⟨e1.symm, by rw [e2, Y.out, decide_eq_false (show ¬ (hi < n ∧ y = x) from fun h => hyx h.2)]⟩
        · clear hc
          go_wp2_with (first | (go_at_call 71; refine (less_int _ _ _).mono ?_; rintro e w' ⟨rfl, rfl⟩) | (go_at_call 72; refine (isNaN_int _ _).mono ?_; rintro e w' ⟨rfl, rfl⟩))
          go_ret2
          refine ⟨hi, false, ?_, by omega, fun hr => ?_, below_drewN (Below.refl _ _) _⟩
          · first | rfl | simp [*]
          · obtain ⟨e1, e2⟩ := E.out hr
            exact ⟨e1.symm, by rw [e2, decide_eq_false (show ¬ (hi < n ∧ l.getD hi 0 = x) from fun h => hn h.1)]⟩
end Go.Proofs.YtboommppikfgnaaDoor
