/- Contract of Spec.Do.
   Conditions: at most 1000 items; those of a set rise. -/
import Derived.Test.YtboommppikfgnaaDoorSFun
namespace Go.Proofs.YtboommppikfgnaaDoor
open Go Go.RowKit

theorem below_lt {l : List Int} {x : Int} (h : l.contains x = true) : below l x < l.length := by
  unfold below
  have h1 : x ∈ l := by simpa using h
  rcases Nat.lt_or_ge (l.countP (· < x)) l.length with h2 | h2
  · exact h2
  · have h3 := List.countP_eq_length.1 (Nat.le_antisymm List.countP_le_length h2) x h1
    simp at h3
theorem res_fin {Z : Nat → Prop} {w W W1 : World} {b X : Nat} {sh : Int} {items' : List Int} {p q r : Value} (hz : ∀ k, Z k → k < w.heap.size) (hk : Kz Z w W) (hX : w.heap.size ≤ X) (hXl : X < W.heap.size)
    (s : SAt W1 (fun k => Z k ∨ (w.heap.size ≤ k ∧ k < W.heap.size)) b sh items') (k : Kz (fun k => Z k ∨ (w.heap.size ≤ k ∧ k < W.heap.size)) W W1) (hb : Blk W1 X 50 #[p, q, r]) (x y z : Value) :
    SAt (((W1.setCell ⟨X, 0, none⟩ x).setCell ⟨X, 1, none⟩ y).setCell ⟨X, 2, none⟩ z) Z b sh items' ∧ Kz Z w (((W1.setCell ⟨X, 0, none⟩ x).setCell ⟨X, 1, none⟩ y).setCell ⟨X, 2, none⟩ z) ∧
      Blk (((W1.setCell ⟨X, 0, none⟩ x).setCell ⟨X, 1, none⟩ y).setCell ⟨X, 2, none⟩ z) X 50 #[x, y, z] := by
  obtain ⟨b1, g1⟩ := set3 hb x y z
  refine ⟨(s.grown g1 (.inr ⟨hX, hXl⟩)).less (fun _ h => .inl h), (hk.trans (k.less (fun _ h => .inl h))).grown g1 (fun g hg hz' => ?_), b1⟩
  injection hg with hg; have := hz g hz'; omega

section
variable {Z : Nat → Prop} {b : Nat} {sh : Int} {items : List Int} {w : World}
set_option maxRecDepth 100000 in
set_option maxHeartbeats 1600000 in
theorem spec_Do_no (kind key : Int) (h : SAt w Z b sh items) (hm : may sh ⟨kind, key⟩ = false) :
    Calls Tryd.prog 53 #[.pointer (some ⟨b, 0, none⟩), .agg #[.int .i64 kind, .int .i64 key]] w fun e w' =>
      e = .returned (.tuple #[.agg #[.int .i64 0, .bool false, .int .i64 0], .int .i64 1]) ∧ SAt w' Z b sh items ∧ Kz Z w w' := by
  have hr := fun w => task_Right sh kind key w
  rw [hm] at hr
  have HR := Lib.hid hr
  have hk : Below w.heap.size w ((w.alloc (.cells #[.int .i64 kind, .int .i64 key] 43)).alloc (.cells #[.int .i64 0, .bool false, .int .i64 0] 50)) := ((Below.refl _ _).alloc (Nat.le_refl _) _).alloc (by simp) _
  have h' := h.step hk
  have hx := (Blk.new w 43 #[.int .i64 kind, .int .i64 key]).alloc (.cells #[.int .i64 0, .bool false, .int .i64 0] 50)
  have hy := Blk.newAt (w.alloc (.cells #[.int .i64 kind, .int .i64 key] 43)) 50 #[.int .i64 0, .bool false, .int .i64 0] (g := w.heap.size + 1) (by simp)
  have hk' := Kz.of_below hk Z
  have hz := h.zlt
  clear h hk hr hm
  go_enter Tryd.func53, Tryd.ntmps53
  go_wp2_with fail
  generalize hW : ((w.alloc (.cells #[.int .i64 kind, .int .i64 key] 43)).alloc (.cells #[.int .i64 0, .bool false, .int .i64 0] 50)) = W at *
  have hWs : w.heap.size + 1 < W.heap.size := by rw [← hW]; simp
  clear hW
  obtain ⟨v, h1, h2, -, -⟩ := h'.at_
  have qb := Later.cells h1 h1.lt
  have qx := Later.cells hx hx.lt
  refine wp_region_ph (fun w' => ∃ q : Later W.heap.size W, w' = q.val) 5 [] [0, 1, 2, 3, 4] [5, 6] (by kernel_rfl) (by kernel_rfl) (Later.mk_ (Below.refl _ _).drew) ?_
  refine wpPh_nil ?_
  simp only [opsAt, List.map_cons, List.map_nil, List.getD_cons_zero, List.getD_cons_succ]
  repeat (go_big_quiet_step (fail))
  refine wpQuiet_nil ?_
  refine wpTail_late _ _ _ (by kernel_rfl) ?_
  simp only [opsAt, List.map_cons, List.map_nil, List.getD_cons_zero, List.getD_cons_succ]
  clear qb qx h1 h2
  go_wp2_with fail
  refine (HR.out _).mono ?_
  rintro e w1 ⟨rfl, hb⟩
  have hb1 : Below W.heap.size W w1 := (Below.refl _ _).drew.trans hb
  have s1 := (h'.step' hb1)
  have k1 := Kz.of_below hb1 (fun k => Z k ∨ (w.heap.size ≤ k ∧ k < W.heap.size))
  have hy1 := hy.step hb1
  clear h' hb hb1 hy
  obtain ⟨f1, f2, f3⟩ := res_fin hz hk' (by omega) (by omega) s1 k1 hy1 (.int .i64 0) (.bool false) (.int .i64 0)
  have hy0 := hy1.frozen 0
  have hy1' := hy1.frozen 1
  have hy2 := hy1.frozen 2
  have hc := hy1.cells
  have hc' := f3.cells
  clear f3 s1 k1 hy1 hx
  go_wp2_with fail
  refine NoPanic.normal ?_
  go_wp2_with fail
  generalize (((w1.setCell ⟨w.heap.size + 1, 0, none⟩ (.int .i64 0)).setCell ⟨w.heap.size + 1, 1, none⟩ (.bool false)).setCell ⟨w.heap.size + 1, 2, none⟩ (.int .i64 0)) = W2 at *
  exact bodyPost_ret (v := .tuple #[.agg #[.int .i64 0, .bool false, .int .i64 0], .int .i64 1]) (by simp [results, Tryd.results53, go_sem, hc']) rfl ⟨rfl, f1, f2⟩

set_option maxRecDepth 100000 in
set_option maxHeartbeats 6400000 in
theorem spec_Do_yes (kind key : Int) (h : SAt w Z b sh items) (hl : items.length ≤ 1000) (hrs : sh = 1 ∨ sh = 2 → rises items) (hm : may sh ⟨kind, key⟩ = true) :
    Calls Tryd.prog 53 #[.pointer (some ⟨b, 0, none⟩), .agg #[.int .i64 kind, .int .i64 key]] w fun e w' =>
      e = .returned (.tuple #[.agg (spTell items ⟨kind, key⟩).cells.toArray, .int .i64 0]) ∧ SAt w' Z b sh (spDo sh items ⟨kind, key⟩) ∧ Kz Z w w' := by
  have hmp : mayP sh kind key := of_decide_eq_true hm
  have hr := fun w => task_Right sh kind key w
  rw [hm] at hr
  have HR := Lib.hid hr
  have hk : Below w.heap.size w ((w.alloc (.cells #[.int .i64 kind, .int .i64 key] 43)).alloc (.cells #[.int .i64 0, .bool false, .int .i64 0] 50)) := ((Below.refl _ _).alloc (Nat.le_refl _) _).alloc (by simp) _
  have h' := h.step hk
  have hx := (Blk.new w 43 #[.int .i64 kind, .int .i64 key]).alloc (.cells #[.int .i64 0, .bool false, .int .i64 0] 50)
  have hy := Blk.newAt (w.alloc (.cells #[.int .i64 kind, .int .i64 key] 43)) 50 #[.int .i64 0, .bool false, .int .i64 0] (g := w.heap.size + 1) (by simp)
  have hk' := Kz.of_below hk Z
  have hz := h.zlt
  have kc : ((sh = 1 ∨ sh = 2) ∧ (kind = 1 ∨ kind = 2 ∨ kind = 3)) ∨ ((sh = 3 ∨ sh = 4) ∧ (kind = 4 ∨ kind = 5)) := by unfold mayP at hmp; omega
  clear h hk hr hm hmp
  go_enter Tryd.func53, Tryd.ntmps53
  go_wp2_with fail
  generalize hW : ((w.alloc (.cells #[.int .i64 kind, .int .i64 key] 43)).alloc (.cells #[.int .i64 0, .bool false, .int .i64 0] 50)) = W at *
  have hWs : w.heap.size + 1 < W.heap.size := by rw [← hW]; simp
  clear hW
  have h0 := h'
  obtain ⟨v, h1, h2, -, -⟩ := h0.at_
  clear h0
  have qb := Later.cells h1 h1.lt
  have qx := Later.cells hx hx.lt
  refine wp_region_ph (fun w' => ∃ q : Later W.heap.size W, w' = q.val) 5 [] [0, 1, 2, 3, 4] [5, 6] (by kernel_rfl) (by kernel_rfl) (Later.mk_ (Below.refl _ _).drew) ?_
  refine wpPh_nil ?_
  simp only [opsAt, List.map_cons, List.map_nil, List.getD_cons_zero, List.getD_cons_succ]
  repeat (go_big_quiet_step (fail))
  refine wpQuiet_nil ?_
  refine wpTail_late _ _ _ (by kernel_rfl) ?_
  simp only [opsAt, List.map_cons, List.map_nil, List.getD_cons_zero, List.getD_cons_succ]
  clear qb qx
  go_wp2_with fail
  refine (HR.out _).mono ?_
  rintro e w1 ⟨rfl, hb⟩
  have hb1 : Below W.heap.size W w1 := (Below.refl _ _).drew.trans hb
  have s1 := (h'.step' hb1)
  have hy1 := hy.step hb1
  have hx1 := hx.step hb1
  have g1 := h1.step hb1
  have g2 : Own w1 v items := own_step h2 hb1
  have hs1 := hb1.size
  clear h' hb hy h1 h2 hx
  go_wp2_with fail
  refine NoPanic.normal ?_
  go_wp2_with fail
  have hsearch := fun (w2 : World) (hb : Below w1.heap.size w1 w2) => search_own v items key w2 (own_step g2 hb) (by omega)
  obtain ⟨A, c, rfl, -, -, -⟩ := own_form g2
  have qb := Later.cells g1 g1.lt
  have qx := Later.cells hx1 hx1.lt
  refine wp_region_ph (fun w' => ∃ q : Later w1.heap.size w1, w' = q.val) 12 [([0, 1, 2, 3, 4, 5, 6], 7)] [8, 9, 10, 11] [12] (by kernel_rfl) (by kernel_rfl) (Later.mk_ (Below.refl _ _).drew) ?_
  refine wpPh_cons ?_
  simp only [opsAt, List.map_cons, List.map_nil, List.getD_cons_zero, List.getD_cons_succ]
  repeat (go_big_quiet_step (fail))
  refine wpQuiet_nil ?_
  refine wpPh_op rfl (fun K hK => ?_)
  go_simp
  refine (hsearch _ ((Below.refl _ _).drew)).mono ?_
  rintro e w2 ⟨at_, there, rfl, hat, hris, hb2⟩
  have hb2' : Below w1.heap.size w1 w2 := (Below.refl _ _).drew.trans hb2
  refine hK _ _ (Later.mk_ hb2') ?_
  clear hK K hsearch hb2
  have hq : (sh = 1 ∨ sh = 2) → at_ = below items key ∧ there = items.contains key := fun hh => hris (hrs hh)
  have HQ := Lib.hid hq
  clear hq hris hrs
  refine wpPh_nil ?_
  repeat (go_big_quiet_step (fail))
  refine wpQuiet_nil ?_
  refine wpTail_late _ _ _ (by kernel_rfl) ?_
  clear qb qx
  go_wp2_with fail
  refine NoPanic.normal ?_
  have s2 := s1.step' hb2'
  have hy2 := hy1.step hb2'
  have hx2 := hx1.step hb2'
  have k2 := Kz.of_below (hb1.trans (hb2'.mono hs1)) (fun k => Z k ∨ (w.heap.size ≤ k ∧ k < W.heap.size))
  have hs2 := hb2'.size
  clear s1 hy1 hx1 g1 g2 hb1 hb2'
  have f0 := hy2.frozen 0
  have f1 := hy2.frozen 1
  have f2 := hy2.frozen 2
  have qy := hy2.cells
  have qx := hx2.cells
  rcases kc with ⟨hsh, hkind⟩ | ⟨hsh, hkind⟩
  · obtain ⟨e1, e2⟩ := HQ.out hsh
    have hats : there = true → at_ < items.length := fun ht => by rw [e1]; exact below_lt (by rw [← e2]; exact ht)
    rcases hkind with rfl | rfl | rfl
    · -- Insert
      have HT : Hid (spTell items ⟨1, key⟩ = .yes (!there)) := by rw [e2]; rfl
      have HD : Hid (spDo sh items ⟨1, key⟩ = if there then items else insAt items at_ key) := by rw [e1, e2]; rfl
      clear e1 e2
      cases there with
      | true =>
        obtain ⟨r1, r2, r3⟩ := res_fin hz hk' (by omega) (by omega) s2 k2 hy2 (.int .i64 0) (.bool false) (.int .i64 0)
        have hc' := r3.cells
        clear r3 s2 k2 hy2 hx2 HQ HR
        go_wp2_with fail
        generalize (((w2.setCell ⟨w.heap.size + 1, 0, none⟩ (.int .i64 0)).setCell ⟨w.heap.size + 1, 1, none⟩ (.bool false)).setCell ⟨w.heap.size + 1, 2, none⟩ (.int .i64 0)) = W2 at *
        refine bodyPost_ret (v := .tuple #[.agg #[.int .i64 0, .bool false, .int .i64 0], .int .i64 0]) (by simp [results, Tryd.results53, go_sem, hc']) rfl ⟨?_, ?_, r2⟩
        · rw [HT.out]; rfl
        · rw [HD.out]; exact r1
      | false =>
        go_wp2_with fail
        have qb := Later.cells hx2 hx2.lt
        refine wp_region_ph (fun w' => ∃ q : Later w2.heap.size w2, w' = q.val) 6 [] [0, 1, 2, 3, 4, 5] [6] (by kernel_rfl) (by kernel_rfl) (Later.mk_ (Below.refl _ _).drew) ?_
        refine wpPh_nil ?_
        simp only [opsAt, List.map_cons, List.map_nil, List.getD_cons_zero, List.getD_cons_succ]
        repeat (go_big_quiet_step (fail))
        refine wpQuiet_nil ?_
        refine wpTail_late _ _ _ (by kernel_rfl) ?_
        simp only [opsAt, List.map_cons, List.map_nil, List.getD_cons_zero, List.getD_cons_succ]
        clear qb
        go_wp2_with fail
        refine (bag_put at_ key (s2.step' ((Below.refl _ _).drew)) hat hl).mono ?_
        rintro e w3 ⟨rfl, s3, k3'⟩
        have k3 : Kz (fun k => Z k ∨ (w.heap.size ≤ k ∧ k < W.heap.size)) w2 w3 := ((Kz.refl _ _).drew).trans k3'
        have hs3 := k3.size
        clear s2 k3' f0 f1 f2 qx qy
        go_wp2_with fail
        refine NoPanic.normal ?_
        have hy3 := hy2.kz k3 (.inr ⟨by omega, by omega⟩)
        have k4 := k2.trans k3
        obtain ⟨r1, r2, r3⟩ := res_fin hz hk' (by omega) (by omega) s3 k4 hy3 (.int .i64 0) (.bool true) (.int .i64 0)
        have hc' := r3.cells
        have f0 := hy3.frozen 0
        have f1 := hy3.frozen 1
        have f2 := hy3.frozen 2
        have qy := hy3.cells
        clear r3 s3 k4 k3 hy3 hy2 hx2 HQ HR
        go_wp2_with fail
        generalize (((w3.setCell ⟨w.heap.size + 1, 0, none⟩ (.int .i64 0)).setCell ⟨w.heap.size + 1, 1, none⟩ (.bool true)).setCell ⟨w.heap.size + 1, 2, none⟩ (.int .i64 0)) = W2 at *
        refine bodyPost_ret (v := .tuple #[.agg #[.int .i64 0, .bool true, .int .i64 0], .int .i64 0]) (by simp [results, Tryd.results53, go_sem, hc']) rfl ⟨?_, ?_, r2⟩
        · rw [HT.out]; rfl
        · rw [HD.out]; exact r1
    · -- Delete
      have HT : Hid (spTell items ⟨2, key⟩ = .yes there) := by rw [e2]; rfl
      have HD : Hid (spDo sh items ⟨2, key⟩ = if there then items.eraseIdx at_ else items) := by rw [e1, e2]; rfl
      clear e1 e2
      cases there with
      | false =>
        obtain ⟨r1, r2, r3⟩ := res_fin hz hk' (by omega) (by omega) s2 k2 hy2 (.int .i64 0) (.bool false) (.int .i64 0)
        have hc' := r3.cells
        clear r3 s2 k2 hy2 hx2 HQ HR
        go_wp2_with fail
        generalize (((w2.setCell ⟨w.heap.size + 1, 0, none⟩ (.int .i64 0)).setCell ⟨w.heap.size + 1, 1, none⟩ (.bool false)).setCell ⟨w.heap.size + 1, 2, none⟩ (.int .i64 0)) = W2 at *
        refine bodyPost_ret (v := .tuple #[.agg #[.int .i64 0, .bool false, .int .i64 0], .int .i64 0]) (by simp [results, Tryd.results53, go_sem, hc']) rfl ⟨?_, ?_, r2⟩
        · rw [HT.out]; rfl
        · rw [HD.out]; exact r1
      | true =>
        have hat' := hats rfl
        go_wp2_with fail
        refine (bag_cut at_ s2 hat' hl).mono ?_
        rintro e w3 ⟨rfl, s3, k3⟩
        have hs3 := k3.size
        clear s2 f0 f1 f2 qx qy
        have hy3 := hy2.kz k3 (.inr ⟨by omega, by omega⟩)
        have k4 := k2.trans k3
        obtain ⟨r1, r2, r3⟩ := res_fin hz hk' (by omega) (by omega) s3 k4 hy3 (.int .i64 0) (.bool true) (.int .i64 0)
        have hc' := r3.cells
        have f0 := hy3.frozen 0
        have f1 := hy3.frozen 1
        have f2 := hy3.frozen 2
        have qy := hy3.cells
        clear r3 s3 k4 k3 hy3 hy2 hx2 HQ HR
        go_wp2_with fail
        generalize (((w3.setCell ⟨w.heap.size + 1, 0, none⟩ (.int .i64 0)).setCell ⟨w.heap.size + 1, 1, none⟩ (.bool true)).setCell ⟨w.heap.size + 1, 2, none⟩ (.int .i64 0)) = W2 at *
        refine bodyPost_ret (v := .tuple #[.agg #[.int .i64 0, .bool true, .int .i64 0], .int .i64 0]) (by simp [results, Tryd.results53, go_sem, hc']) rfl ⟨?_, ?_, r2⟩
        · rw [HT.out]; rfl
        · rw [HD.out]; exact r1
    · -- Has
      have HT : Hid (spTell items ⟨3, key⟩ = .yes there) := by rw [e2]; rfl
      have HD : Hid (spDo sh items ⟨3, key⟩ = items) := rfl
      clear e1 e2
      obtain ⟨r1, r2, r3⟩ := res_fin hz hk' (by omega) (by omega) s2 k2 hy2 (.int .i64 0) (.bool there) (.int .i64 0)
      have hc' := r3.cells
      clear r3 s2 k2 hy2 hx2 HQ HR
      go_wp2_with fail
      generalize (((w2.setCell ⟨w.heap.size + 1, 0, none⟩ (.int .i64 0)).setCell ⟨w.heap.size + 1, 1, none⟩ (.bool there)).setCell ⟨w.heap.size + 1, 2, none⟩ (.int .i64 0)) = W2 at *
      refine bodyPost_ret (v := .tuple #[.agg #[.int .i64 0, .bool there, .int .i64 0], .int .i64 0]) (by simp [results, Tryd.results53, go_sem, hc']) rfl ⟨?_, ?_, r2⟩
      · rw [HT.out]; rfl
      · rw [HD.out]; exact r1
  · rcases hkind with rfl | rfl
    · -- Put
      have HT : Hid (spTell items ⟨4, key⟩ = .yes true) := rfl
      have HD : Hid (spDo sh items ⟨4, key⟩ = insAt items (if sh = 3 then items.length else 0) key) := by
        show (if sh = 3 then items ++ [key] else key :: items) = _
        by_cases h3 : sh = 3
        · rw [if_pos h3, if_pos h3, insAt_end]
        · rw [if_neg h3, if_neg h3]; rfl
      obtain ⟨pl, hpl, hple⟩ : ∃ pl : Nat, pl = (if sh = 3 then items.length else 0) ∧ pl ≤ items.length := ⟨_, rfl, by split <;> omega⟩
      have hend : (if sh = 3 then (items.length : Int) else 0) = (pl : Int) := by rw [hpl]; split <;> simp
      have HE := Lib.hid hend
      rw [← hpl] at HD
      clear hpl hend
      go_wp2_with fail
      have qb := Later.cells hx2 hx2.lt
      refine wp_region_ph (fun w' => ∃ q : Later w2.heap.size w2, w' = q.val) 7 [] [0, 1, 2, 3, 5, 6] [4, 7] (by kernel_rfl) (by kernel_rfl) (Later.mk_ (Below.refl _ _).drew) ?_
      refine wpPh_nil ?_
      simp only [opsAt, List.map_cons, List.map_nil, List.getD_cons_zero, List.getD_cons_succ]
      repeat (go_big_quiet_step (fail))
      refine wpQuiet_nil ?_
      refine wpTail_early rfl (fun K hK => ?_)
      go_simp
      refine (spec_end (s2.step' ((Below.refl _ _).drew))).mono ?_
      rw [HE.out]
      rintro e w3 ⟨rfl, rfl⟩
      refine hK _ _ (Later.mk_ ((Below.refl _ _).drew)) ?_
      clear hK K
      refine wpTail_late _ _ _ (by kernel_rfl) ?_
      simp only [opsAt, List.map_cons, List.map_nil, List.getD_cons_zero, List.getD_cons_succ]
      clear qb
      go_wp2_with fail
      refine (bag_put pl key (s2.step' ((Below.refl _ _).drew)) hple hl).mono ?_
      rintro e w3 ⟨rfl, s3, k3'⟩
      have k3 : Kz (fun k => Z k ∨ (w.heap.size ≤ k ∧ k < W.heap.size)) w2 w3 := ((Kz.refl _ _).drew).trans k3'
      have hs3 := k3.size
      clear s2 k3' f0 f1 f2 qx qy
      go_wp2_with fail
      refine NoPanic.normal ?_
      have hy3 := hy2.kz k3 (.inr ⟨by omega, by omega⟩)
      have k4 := k2.trans k3
      obtain ⟨r1, r2, r3⟩ := res_fin hz hk' (by omega) (by omega) s3 k4 hy3 (.int .i64 0) (.bool true) (.int .i64 0)
      have hc' := r3.cells
      have f0 := hy3.frozen 0
      have f1 := hy3.frozen 1
      have f2 := hy3.frozen 2
      have qy := hy3.cells
      clear r3 s3 k4 k3 hy3 hy2 hx2 HQ HR
      go_wp2_with fail
      generalize (((w3.setCell ⟨w.heap.size + 1, 0, none⟩ (.int .i64 0)).setCell ⟨w.heap.size + 1, 1, none⟩ (.bool true)).setCell ⟨w.heap.size + 1, 2, none⟩ (.int .i64 0)) = W2 at *
      refine bodyPost_ret (v := .tuple #[.agg #[.int .i64 0, .bool true, .int .i64 0], .int .i64 0]) (by simp [results, Tryd.results53, go_sem, hc']) rfl ⟨?_, ?_, r2⟩
      · rw [HT.out]; rfl
      · rw [HD.out]; exact r1
    · -- Take
      have HT : Hid (spTell items ⟨5, key⟩ = ⟨0, someI items, firstI items⟩) := by cases items <;> rfl
      have HD : Hid (spDo sh items ⟨5, key⟩ = items.tail) := rfl
      go_wp2_with fail
      refine (spec_take s2 hl).mono ?_
      rintro e w3 ⟨rfl, s3, k3⟩
      have hs3 := k3.size
      clear s2 f0 f1 f2 qx qy
      have hy3 := hy2.kz k3 (.inr ⟨by omega, by omega⟩)
      have k4 := k2.trans k3
      obtain ⟨r1, r2, r3⟩ := res_fin hz hk' (by omega) (by omega) s3 k4 hy3 (.int .i64 0) (.bool (someI items)) (.int .i64 (firstI items))
      have hc' := r3.cells
      have f0 := hy3.frozen 0
      have f1 := hy3.frozen 1
      have f2 := hy3.frozen 2
      have qy := hy3.cells
      clear r3 s3 k4 k3 hy3 hy2 hx2 HQ HR
      go_wp2_with fail
      generalize (((w3.setCell ⟨w.heap.size + 1, 0, none⟩ (.int .i64 0)).setCell ⟨w.heap.size + 1, 1, none⟩ (.bool (someI items))).setCell ⟨w.heap.size + 1, 2, none⟩ (.int .i64 (firstI items))) = W2 at *
      refine bodyPost_ret (v := .tuple #[.agg #[.int .i64 0, .bool (someI items), .int .i64 (firstI items)], .int .i64 0]) (by simp [results, Tryd.results53, go_sem, hc']) rfl ⟨?_, ?_, r2⟩
      · rw [HT.out]; rfl
      · rw [HD.out]; exact r1
end
end Go.Proofs.YtboommppikfgnaaDoor
