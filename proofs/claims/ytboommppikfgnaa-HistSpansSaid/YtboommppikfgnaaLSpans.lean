/- The law HistSpans returns true, whatever the spans.
   Conditions: none. -/
import Derived.Test.YtboommppikfgnaaHAwake
import Derived.Deep.DeepCutAuto
namespace Go.Proofs.Ytboommppikfgnaa
open Go Go.RowKit

theorem span_before_is (a b c d : Int) (w : World) (r : Bool) (h : spanB b c = r) :
    Calls Try.prog 14 #[.agg #[.int .i64 a, .int .i64 b], .agg #[.int .i64 c, .int .i64 d]] w fun e w' => e = .returned (.bool r) ∧ Below w.heap.size w w' := by
  subst h; exact span_before a b c d w
theorem span_pending_is (a b : Int) (w : World) (r : Bool) (h : decide (b < 0) = r) :
    Calls Try.prog 15 #[.agg #[.int .i64 a, .int .i64 b]] w fun e w' => e = .returned (.bool r) ∧ Below w.heap.size w w' := by
  subst h; exact span_pending a b w

/-- three spans, by number -/
def n3 (a b c : Int) (k : Nat) : Int := if k = 0 then a else if k = 1 then b else c
def spOk (p q : Int) : Prop := 0 ≤ p ∧ (q < 0 ∨ p < q)
theorem sp_self (p q : Int) (h : spOk p q) : spanB q p = false := by
  unfold spOk at h; unfold spanB; simp; omega
theorem sp_pend (p q : Int) (h : q < 0) : spanB q p = false := by
  unfold spanB; simp; omega
theorem sp_two (p q p' q' : Int) (h : spOk p q) (h' : spOk p' q') (h1 : spanB q p' = true) : spanB q' p = false := by
  unfold spOk at h h'; unfold spanB at *; simp at *; omega
theorem sp_four (px qx py qy pu qu pv qv : Int) (h1 : spanB qx py = true) (h2 : spanB qu pv = true) (h3 : spanB qx pv = false) : spanB qu py = true := by
  unfold spanB at *; simp at *; omega

theorem three_cells {w : World} {L : Nat} {a0 a1 b0 b1 c0 c1 : Int} (h : Blk w L 25 #[.int .i64 a0, .int .i64 a1, .int .i64 b0, .int .i64 b1, .int .i64 c0, .int .i64 c1]) :
    ∀ k, k < 3 → w.cell? ⟨L, k * 2, none⟩ = some (.int .i64 (n3 a0 b0 c0 k)) ∧ w.cell? ⟨L, k * 2 + 1, none⟩ = some (.int .i64 (n3 a1 b1 c1 k)) := by
  intro k hk
  match k, hk with
  | 0, _ => exact ⟨h.cell 0, h.cell 1⟩
  | 1, _ => exact ⟨h.cell 2, h.cell 3⟩
  | 2, _ => exact ⟨h.cell 4, h.cell 5⟩

set_option maxRecDepth 100000 in
set_option maxHeartbeats 1600000 in
theorem law_spans (a0 a1 b0 b1 c0 c1 : Int) (w : World) :
    Calls Try.prog 3 #[.agg #[.int .i64 a0, .int .i64 a1], .agg #[.int .i64 b0, .int .i64 b1], .agg #[.int .i64 c0, .int .i64 c1]] w fun e w' => e = .returned (.bool true) ∧ Below w.heap.size w w' := by
  go_enter Try.func3, Try.ntmps3
  go_wp2_with fail
  refine (hawake _).mono ?_
  rintro e w1 ⟨rfl, h1⟩
  have g0 : Blk w1 w.heap.size 22 #[.int .i64 a0, .int .i64 a1] := Blk.step (((Blk.new w 22 #[.int .i64 a0, .int .i64 a1]).alloc _).alloc _) h1
  have g1 : Blk w1 (w.heap.size + 1) 22 #[.int .i64 b0, .int .i64 b1] := Blk.step ((Blk.newAt (w.alloc (.cells #[.int .i64 a0, .int .i64 a1] 22)) 22 #[.int .i64 b0, .int .i64 b1] (by simp)).alloc _) h1
  have g2 : Blk w1 (w.heap.size + 1 + 1) 22 #[.int .i64 c0, .int .i64 c1] := Blk.step (Blk.newAt ((w.alloc (.cells #[.int .i64 a0, .int .i64 a1] 22)).alloc (.cells #[.int .i64 b0, .int .i64 b1] 22)) 22 #[.int .i64 c0, .int .i64 c1] (by simp)) h1
  have k1 : Below w.heap.size w w1 := ((((Below.refl _ _).alloc (Nat.le_refl _) _).alloc (by simp) _).alloc (by simp; omega) _).trans (h1.mono (by simp; omega))
  clear h1
  have q0 := g0.cells
  have q1 := g1.cells
  have q2 := g2.cells
  go_wp2_with fail
  have hL := Blk.new w1 25 #[.int .i64 a0, .int .i64 a1, .int .i64 b0, .int .i64 b1, .int .i64 c0, .int .i64 c1]
  have k2 : Below w.heap.size w (w1.alloc (.cells #[.int .i64 a0, .int .i64 a1, .int .i64 b0, .int .i64 b1, .int .i64 c0, .int .i64 c1] 25)) := k1.alloc k1.size _
  clear q0 q1 q2 g0 g1 g2 k1
  generalize (w1.alloc (.cells #[.int .i64 a0, .int .i64 a1, .int .i64 b0, .int .i64 b1, .int .i64 c0, .int .i64 c1] 25)) = W at *
  generalize w1.heap.size = L at *
  have hLP : ∀ W, Blk W L 25 #[.int .i64 a0, .int .i64 a1, .int .i64 b0, .int .i64 b1, .int .i64 c0, .int .i64 c1] → ∀ k, k < 3 → W.cell? ⟨L, k * 2, none⟩ = some (.int .i64 (n3 a0 b0 c0 k)) ∧ W.cell? ⟨L, k * 2 + 1, none⟩ = some (.int .i64 (n3 a1 b1 c1 k)) := fun _ h => three_cells h
  have hL3 := hLP _ hL
  have hLl := hL.lt
  have hWw := k2.size
  generalize hp : n3 a0 b0 c0 = p at *
  generalize hq : n3 a1 b1 c1 = q at *
  clear hp hq
  have HLP := Lib.hid hLP
  clear hLP
  go_loopw [38] (fun i wr => ∃ k : Nat, k ≤ 3 ∧ i = .int .i64 k ∧ (∀ j, j < k → spOk (p j) (q j)) ∧ Below W.heap.size W wr) (fun i _ => 3 - (intOf i).toNat)
  case atStart => exact ⟨0, by omega, rfl, fun j hj => absurd hj (by omega), Below.refl _ _⟩
  case round =>
    obtain ⟨k, hk, rfl, hall, hb⟩ := hrel
    by_cases hlt : k < 3
    · have dk : decide ((k : Int) < 3) = true := by simp; omega
      have d0 := (hb.cell (p := ⟨L, k * 2, none⟩) hLl).trans (hL3 k hlt).1
      have d1 := (hb.cell (p := ⟨L, k * 2 + 1, none⟩) hLl).trans (hL3 k hlt).2
      have hbs := hb.size
      by_cases ok : spOk (p k) (q k)
      · have hall' : ∀ j, j < k + 1 → spOk (p j) (q j) := fun j hj => by
          by_cases e : j = k
          · subst e; exact ok
          · exact hall j (by omega)
        unfold spOk at ok
        have HA := Lib.hid hall'
        have ok0 : decide (p k < 0) = false := by simp; omega
        by_cases hq0 : 0 ≤ q k
        · have ok1 : decide (q k ≤ p k) = false := by simp; omega
          clear hall hall'
          go_wp2
          go_roundw
          case rel => exact ⟨k + 1, by omega, by go_num, HA.out, (hb.alloc hbs _)⟩
          case measure => simp [intOf]; omega
        · have ok1 : decide (0 ≤ q k) = false := by simp; omega
          clear hall hall'
          go_wp2
          go_roundw
          case rel => exact ⟨k + 1, by omega, by go_num, HA.out, (hb.alloc hbs _)⟩
          case measure => simp [intOf]; omega
      · unfold spOk at ok
        clear hall
        by_cases hp0 : p k < 0
        · go_wp2
          go_ret
          exact ⟨rfl, (k2.trans (hb.mono hWw)).alloc (by omega) _⟩
        · have hq0 : 0 ≤ q k := by omega
          have hq1 : q k ≤ p k := by omega
          go_wp2
          go_ret
          exact ⟨rfl, (k2.trans (hb.mono hWw)).alloc (by omega) _⟩
    · have dk : decide ((k : Int) < 3) = false := by simp; omega
      have hall : ∀ j, j < 3 → spOk (p j) (q j) := fun j hj => hall j (by omega)
      have HA := Lib.hid hall
      clear hall
      go_wp2
      have hL2 := hL.below hb hLl
      have k3 := k2.trans (hb.mono hWw)
      clear hL k2 hb hLl hWw hL3
      obtain ⟨W2, hW2⟩ : ∃ W2, wr = W2 := ⟨_, rfl⟩
      subst hW2
      have hL3 : ∀ k, k < 3 → wr.cell? ⟨L, k * 2, none⟩ = some (.int .i64 (p k)) ∧ wr.cell? ⟨L, k * 2 + 1, none⟩ = some (.int .i64 (q k)) := HLP.out _ hL2
      have hLl := hL2.lt
      have hws := k3.size
      generalize hwo : wr = wo at *
      clear hwo wr
      go_loopw [60] (fun i wr => ∃ k : Nat, k ≤ 3 ∧ i = .int .i64 k ∧ Below wo.heap.size wo wr) (fun i _ => 3 - (intOf i).toNat)
      case atStart => exact ⟨0, by omega, rfl, Below.refl _ _⟩
      case round =>
        obtain ⟨i, hi, rfl, hb⟩ := hrel
        by_cases hlt : i < 3
        · have di : decide ((i : Int) < 3) = true := by simp; omega
          have d0 := (hb.cell (p := ⟨L, i * 2, none⟩) hLl).trans (hL3 i hlt).1
          have d1 := (hb.cell (p := ⟨L, i * 2 + 1, none⟩) hLl).trans (hL3 i hlt).2
          have hbs := hb.size
          have ok := HA.out i hlt
          have s1 := Lib.hid (sp_self _ _ ok)
          have s2 := fun c => Lib.hid (fun h => sp_pend c (q i) h)
          clear ok
          go_wp2
          have hx := Blk.new wr 25 #[.int .i64 (p i), .int .i64 (q i)]
          have hL4 := (hL2.below hb hLl).alloc (.cells #[.int .i64 (p i), .int .i64 (q i)] 25)
          have hb4 := hb.alloc hbs (.cells #[.int .i64 (p i), .int .i64 (q i)] 25)
          clear d0 d1
          generalize (wr.alloc (.cells #[.int .i64 (p i), .int .i64 (q i)] 25)) = W4 at *
          have hxl := hx.lt
          have cx := Later.cells hx hxl
          have hL5 := HLP.out W4 hL4
          have cl0 := Later.cell (B := W4.heap.size) (hL5 0 (by omega)).1 hL4.lt
          have cl1 := Later.cell (B := W4.heap.size) (hL5 0 (by omega)).2 hL4.lt
          have cl2 := Later.cell (B := W4.heap.size) (hL5 1 (by omega)).1 hL4.lt
          have cl3 := Later.cell (B := W4.heap.size) (hL5 1 (by omega)).2 hL4.lt
          simp only [Nat.zero_mul, Nat.one_mul, Nat.zero_add] at cl0 cl1 cl2 cl3
          clear hL5
          clear s2
          have hqd : decide (q i < 0) = true ∨ decide (q i < 0) = false := by cases decide (q i < 0) <;> simp
          have t0 : decide (q i < 0) = true → Hid (spanB (q i) (p 0) = false) := fun hd => Lib.hid (sp_pend (p 0) (q i) (by simpa using hd))
          have t1 : decide (q i < 0) = true → Hid (spanB (q i) (p 1) = false) := fun hd => Lib.hid (sp_pend (p 1) (q i) (by simpa using hd))
          go_cut [92] (fun s wx => s = .bool false ∧ Below W4.heap.size W4 wx)
          case first =>
            rcases hqd with hd | hd
            · have T0 := t0 hd
              have T1 := t1 hd
              have HD := Lib.hid hd
              clear t0 t1
              refine wp_region_later W4.heap.size (by kernel_rfl) (by kernel_rfl) ?_
              repeat (go_big_quiet_step ((first
                | (go_at_call 15; exact Later.call (Nat.le_refl _) (span_pending_is _ _ _ _ HD.out))
                | (go_at_call 14; first | exact Later.call (Nat.le_refl _) (span_before_is _ _ _ _ _ _ s1.out) | exact Later.call (Nat.le_refl _) (span_before_is _ _ _ _ _ _ T0.out) | exact Later.call (Nat.le_refl _) (span_before_is _ _ _ _ _ _ T1.out)))))
              refine wpQuiet_nil ?_
              intro W5 hq5
              obtain ⟨q5, hq5⟩ := hq5
              have hb5 : Below W4.heap.size W4 W5 := by rw [hq5]; exact q5.below
              clear hq5 q5 cx cl0 cl1 cl2 cl3
              go_wp2_with fail
              go_meet
              exact ⟨rfl, hb5⟩
            · have HD := Lib.hid hd
              clear t0 t1
              refine wp_region_later W4.heap.size (by kernel_rfl) (by kernel_rfl) ?_
              repeat (go_big_quiet_step ((first
                | (go_at_call 15; exact Later.call (Nat.le_refl _) (span_pending_is _ _ _ _ HD.out))
                | (go_at_call 14; exact Later.call (Nat.le_refl _) (span_before_is _ _ _ _ _ _ s1.out)))))
              refine wpQuiet_nil ?_
              intro W5 hq5
              obtain ⟨q5, hq5⟩ := hq5
              have hb5 : Below W4.heap.size W4 W5 := by rw [hq5]; exact q5.below
              clear hq5 q5 cx cl0 cl1 cl2 cl3
              go_wp2_with fail
              go_meet
              exact ⟨rfl, hb5⟩
          case rest =>
            obtain ⟨rfl, hb5⟩ := hcut
            clear hqd t0 t1 cx cl0 cl1 cl2 cl3
            have hx5 := hx.step hb5
            have hL5 := hL4.step hb5
            have k5 := hb4.trans (hb5.mono (by have := hb4.size; omega))
            clear hx hL4 hb4 hb5 hxl
            generalize wr.heap.size = X at *
            generalize hz : wc = w5 at *
            clear hz wc
            go_upto_region 16 with (fail)
            have hLl5 := hL5.lt
            have hXl5 := hx5.lt
            go_loopw [95] (fun j wr => ∃ k : Nat, k ≤ 3 ∧ j = .int .i64 k ∧ Below w5.heap.size w5 wr) (fun j _ => 3 - (intOf j).toNat)
            case atStart => exact ⟨0, by omega, rfl, Below.refl _ _⟩
            case round =>
              obtain ⟨j, hj, rfl, hb⟩ := hrel
              by_cases hlt2 : j < 3
              · have dj : decide ((j : Int) < 3) = true := by simp; omega
                have hbs := hb.size
                have hL6 := HLP.out wr (hL5.below hb hLl5) j hlt2
                have d0 := hL6.1
                have d1 := hL6.2
                clear hL6
                have hy := Blk.new wr 25 #[.int .i64 (p j), .int .i64 (q j)]
                have hx6 := (hx5.below hb hXl5).alloc (.cells #[.int .i64 (p j), .int .i64 (q j)] 25)
                have hL6 := (hL5.below hb hLl5).alloc (.cells #[.int .i64 (p j), .int .i64 (q j)] 25)
                have hb6 := hb.alloc hbs (.cells #[.int .i64 (p j), .int .i64 (q j)] 25)
                go_upto_region 18 with (fail)
                clear d0 d1
                generalize (wr.alloc (.cells #[.int .i64 (p j), .int .i64 (q j)] 25)) = w6 at *
                generalize wr.heap.size = Y at *
                have hYl := hy.lt
                have hXl6 := hx6.lt
                go_cut [106] (fun s wx => s = .bool false ∧ Below w6.heap.size w6 wx)
                case first =>
                  have oki := HA.out i hlt
                  have okj := HA.out j hlt2
                  have cx := hx6.cells
                  have cy := hy.cells
                  cases h1 : spanB (q i) (p j) with
                  | true =>
                    have S1 := Lib.hid h1
                    have S2 := Lib.hid (sp_two _ _ _ _ oki okj h1)
                    clear h1 oki okj
                    go_wp2_with fail
                    refine (span_before_is _ _ _ _ _ _ S1.out).mono ?_
                    rintro e wa ⟨rfl, hba⟩
                    clear cx cy
                    have cx := (hx6.step hba).cells
                    have cy := (hy.step hba).cells
                    go_wp2_with fail
                    refine (span_before_is _ _ _ _ _ _ S2.out).mono ?_
                    rintro e wb ⟨rfl, hbb⟩
                    clear cx cy
                    go_wp2_with fail
                    go_meet
                    exact ⟨rfl, hba.trans (hbb.mono hba.size)⟩
                  | false =>
                    have S1 := Lib.hid h1
                    clear h1 oki okj
                    go_wp2_with fail
                    refine (span_before_is _ _ _ _ _ _ S1.out).mono ?_
                    rintro e wa ⟨rfl, hba⟩
                    clear cx cy
                    go_wp2_with fail
                    go_meet
                    exact ⟨rfl, hba⟩
                case rest =>
                  obtain ⟨rfl, hb7⟩ := hcut
                  have hx7 := hx6.step hb7
                  have hy7 := hy.step hb7
                  have hL7 := hL6.step hb7
                  have k7 := hb6.trans (hb7.mono (by have := hb6.size; omega))
                  clear hx6 hy hL6 hb7 hb6 hXl6 hYl
                  generalize hz : wc = w7 at *
                  clear hz wc
                  go_upto_region 21 with (fail)
                  have hLl7 := hL7.lt
                  have hXl7 := hx7.lt
                  have hYl7 := hy7.lt
                  go_loopw [109] (fun j wr => ∃ k : Nat, k ≤ 3 ∧ j = .int .i64 k ∧ Below w7.heap.size w7 wr) (fun j _ => 3 - (intOf j).toNat)
                  case atStart => exact ⟨0, by omega, rfl, Below.refl _ _⟩
                  case round =>
                    obtain ⟨u, hu, rfl, hbu⟩ := hrel
                    by_cases hlt3 : u < 3
                    · have du : decide ((u : Int) < 3) = true := by simp; omega
                      have hbs3 := hbu.size
                      have hL8 := HLP.out wr (hL7.below hbu hLl7) u hlt3
                      have d0 := hL8.1
                      have d1 := hL8.2
                      clear hL8
                      have hu8 := Blk.new wr 25 #[.int .i64 (p u), .int .i64 (q u)]
                      have hx8 := (hx7.below hbu hXl7).alloc (.cells #[.int .i64 (p u), .int .i64 (q u)] 25)
                      have hy8 := (hy7.below hbu hYl7).alloc (.cells #[.int .i64 (p u), .int .i64 (q u)] 25)
                      have hL8 := (hL7.below hbu hLl7).alloc (.cells #[.int .i64 (p u), .int .i64 (q u)] 25)
                      have hb8 := hbu.alloc hbs3 (.cells #[.int .i64 (p u), .int .i64 (q u)] 25)
                      go_upto_region 24 with (fail)
                      clear d0 d1
                      generalize (wr.alloc (.cells #[.int .i64 (p u), .int .i64 (q u)] 25)) = w8 at *
                      generalize wr.heap.size = U at *
                      have hLl8 := hL8.lt
                      have hXl8 := hx8.lt
                      have hYl8 := hy8.lt
                      have hUl8 := hu8.lt
                      go_loopw [115] (fun j wr => ∃ k : Nat, k ≤ 3 ∧ j = .int .i64 k ∧ Below w8.heap.size w8 wr) (fun j _ => 3 - (intOf j).toNat)
                      case atStart => exact ⟨0, by omega, rfl, Below.refl _ _⟩
                      case round =>
                        obtain ⟨v, hv, rfl, hbv⟩ := hrel
                        by_cases hlt4 : v < 3
                        · have dv : decide ((v : Int) < 3) = true := by simp; omega
                          have hbs4 := hbv.size
                          have hL9 := HLP.out wr (hL8.below hbv hLl8) v hlt4
                          have d0 := hL9.1
                          have d1 := hL9.2
                          clear hL9
                          have hv9 := Blk.new wr 25 #[.int .i64 (p v), .int .i64 (q v)]
                          have hx9 := (hx8.below hbv hXl8).alloc (.cells #[.int .i64 (p v), .int .i64 (q v)] 25)
                          have hy9 := (hy8.below hbv hYl8).alloc (.cells #[.int .i64 (p v), .int .i64 (q v)] 25)
                          have hu9 := (hu8.below hbv hUl8).alloc (.cells #[.int .i64 (p v), .int .i64 (q v)] 25)
                          have hb9 := hbv.alloc hbs4 (.cells #[.int .i64 (p v), .int .i64 (q v)] 25)
                          go_upto_region 26 with (fail)
                          clear d0 d1
                          generalize (wr.alloc (.cells #[.int .i64 (p v), .int .i64 (q v)] 25)) = w9 at *
                          generalize wr.heap.size = V at *
                          go_cut [138] (fun s wx => s = .bool false ∧ Below w9.heap.size w9 wx)
                          case first =>
                            have e4 := sp_four (p i) (q i) (p j) (q j) (p u) (q u) (p v) (q v)
                            cases h1 : spanB (q i) (p j) with
                            | false =>
                              have S1 := Lib.hid h1
                              clear h1 e4
                              have cx := hx9.cells
                              have cy := hy9.cells
                              have cu := hu9.cells
                              have cv := hv9.cells
                              go_wp2_with fail
                              refine (span_before_is _ _ _ _ _ _ S1.out).mono ?_
                              rintro e z0 ⟨rfl, hz0⟩
                              have ha0 := hz0
                              clear cx cy cu cv
                              go_wp2_with fail
                              go_meet
                              exact ⟨rfl, ha0⟩
                            | true =>
                             cases h2 : spanB (q u) (p v) with
                             | false =>
                              have S1 := Lib.hid h1
                              have S2 := Lib.hid h2
                              clear h1 h2 e4
                              have cx := hx9.cells
                              have cy := hy9.cells
                              have cu := hu9.cells
                              have cv := hv9.cells
                              go_wp2_with fail
                              refine (span_before_is _ _ _ _ _ _ S1.out).mono ?_
                              rintro e z0 ⟨rfl, hz0⟩
                              have ha0 := hz0
                              clear cx cy cu cv
                              have cx := (hx9.step ha0).cells
                              have cy := (hy9.step ha0).cells
                              have cu := (hu9.step ha0).cells
                              have cv := (hv9.step ha0).cells
                              go_wp2_with fail
                              refine (span_before_is _ _ _ _ _ _ S2.out).mono ?_
                              rintro e z1 ⟨rfl, hz1⟩
                              have ha1 := ha0.trans (hz1.mono ha0.size)
                              clear cx cy cu cv
                              go_wp2_with fail
                              go_meet
                              exact ⟨rfl, ha1⟩
                             | true =>
                              cases h3 : spanB (q i) (p v) with
                              | true =>
                               have S1 := Lib.hid h1
                               have S2 := Lib.hid h2
                               have S3 := Lib.hid h3
                               clear h1 h2 h3 e4
                               have cx := hx9.cells
                               have cy := hy9.cells
                               have cu := hu9.cells
                               have cv := hv9.cells
                               go_wp2_with fail
                               refine (span_before_is _ _ _ _ _ _ S1.out).mono ?_
                               rintro e z0 ⟨rfl, hz0⟩
                               have ha0 := hz0
                               clear cx cy cu cv
                               have cx := (hx9.step ha0).cells
                               have cy := (hy9.step ha0).cells
                               have cu := (hu9.step ha0).cells
                               have cv := (hv9.step ha0).cells
                               go_wp2_with fail
                               refine (span_before_is _ _ _ _ _ _ S2.out).mono ?_
                               rintro e z1 ⟨rfl, hz1⟩
                               have ha1 := ha0.trans (hz1.mono ha0.size)
                               clear cx cy cu cv
                               have cx := (hx9.step ha1).cells
                               have cy := (hy9.step ha1).cells
                               have cu := (hu9.step ha1).cells
                               have cv := (hv9.step ha1).cells
                               go_wp2_with fail
                               refine (span_before_is _ _ _ _ _ _ S3.out).mono ?_
                               rintro e z2 ⟨rfl, hz2⟩
                               have ha2 := ha1.trans (hz2.mono ha1.size)
                               clear cx cy cu cv
                               go_wp2_with fail
                               go_meet
                               exact ⟨rfl, ha2⟩
                              | false =>
                               have S4 := Lib.hid (e4 h1 h2 h3)
                               have S1 := Lib.hid h1
                               have S2 := Lib.hid h2
                               have S3 := Lib.hid h3
                               clear h1 h2 h3 e4
                               have cx := hx9.cells
                               have cy := hy9.cells
                               have cu := hu9.cells
                               have cv := hv9.cells
                               go_wp2_with fail
                               refine (span_before_is _ _ _ _ _ _ S1.out).mono ?_
                               rintro e z0 ⟨rfl, hz0⟩
                               have ha0 := hz0
                               clear cx cy cu cv
                               have cx := (hx9.step ha0).cells
                               have cy := (hy9.step ha0).cells
                               have cu := (hu9.step ha0).cells
                               have cv := (hv9.step ha0).cells
                               go_wp2_with fail
                               refine (span_before_is _ _ _ _ _ _ S2.out).mono ?_
                               rintro e z1 ⟨rfl, hz1⟩
                               have ha1 := ha0.trans (hz1.mono ha0.size)
                               clear cx cy cu cv
                               have cx := (hx9.step ha1).cells
                               have cy := (hy9.step ha1).cells
                               have cu := (hu9.step ha1).cells
                               have cv := (hv9.step ha1).cells
                               go_wp2_with fail
                               refine (span_before_is _ _ _ _ _ _ S3.out).mono ?_
                               rintro e z2 ⟨rfl, hz2⟩
                               have ha2 := ha1.trans (hz2.mono ha1.size)
                               clear cx cy cu cv
                               have cx := (hx9.step ha2).cells
                               have cy := (hy9.step ha2).cells
                               have cu := (hu9.step ha2).cells
                               have cv := (hv9.step ha2).cells
                               go_wp2_with fail
                               refine (span_before_is _ _ _ _ _ _ S4.out).mono ?_
                               rintro e z3 ⟨rfl, hz3⟩
                               have ha3 := ha2.trans (hz3.mono ha2.size)
                               clear cx cy cu cv
                               go_wp2_with fail
                               go_meet
                               exact ⟨rfl, ha3⟩
                          case rest =>
                            obtain ⟨rfl, hb10⟩ := hcut
                            have k10 := hb9.trans (hb10.mono (by have := hb9.size; omega))
                            clear hx9 hy9 hu9 hv9 hb9 hb10
                            go_wp2
                            go_roundw
                            case rel => exact ⟨v + 1, by omega, by go_num, k10⟩
                            case measure => simp [intOf]; omega
                        · have dv : decide ((v : Int) < 3) = false := by simp; omega
                          have k11 := hb8.trans (hbv.mono (by have := hb8.size; omega))
                          go_wp2
                          go_roundw
                          case rel => exact ⟨u + 1, by omega, by go_num, k11⟩
                          case measure => simp [intOf]; omega
                    · have du : decide ((u : Int) < 3) = false := by simp; omega
                      have k12 := k7.trans (hbu.mono (by have := k7.size; omega))
                      go_wp2
                      go_roundw
                      case rel => exact ⟨j + 1, by omega, by go_num, k12⟩
                      case measure => simp [intOf]; omega
              · have dj : decide ((j : Int) < 3) = false := by simp; omega
                have k13 := k5.trans (hb.mono (by have := k5.size; omega))
                go_wp2
                go_roundw
                case rel => exact ⟨i + 1, by omega, by go_num, k13⟩
                case measure => simp [intOf]; omega
        · have di : decide ((i : Int) < 3) = false := by simp; omega
          go_wp2
          go_ret
          exact ⟨rfl, k3.trans (hb.mono hws)⟩

end Go.Proofs.Ytboommppikfgnaa
