/- Contract of sched's Each, for whatever function it hands them to.
   Conditions: at most 1000 picks; the function keeps what Each has laid. -/
import Derived.Test.YtiihhpmgfmiacaaDoorSchAll
import Derived.RangeFuncWrites
namespace Go.Proofs.YtiihhpmgfmiacaaDoor
open Go Go.RowKit Go.Shelf
attribute [local go_sem] Oper.semAt_some

/-- what the function that is handed them keeps -/
structure PickKeep (B n₀ : Nat) (W W' : World) : Prop where
  pk : PkKeep n₀ W W'
  own : ∀ g o, B ≤ g → W.heap[g]? = some o → W'.heap[g]? = some o

set_option maxRecDepth 100000 in
set_option maxHeartbeats 2000000 in
theorem each_in (F : Fence) (n : Nat) (h3 : F.fn 20) (h5 : F.fn 19) (h6 : F.fn 30) (hro : F.round = none) (hn : 3 ≤ n) (gp : Nat) (cp : Array Value) (h7 : F.fn gp) (eg : ∀ args w, (callFunc gp args).run Tryd.prog w = .ok (.enter gp args) w) (len cap n₀ : Nat) (A : Option Addr) (ps : List Pk) (w : World)
    (P : List Int → Nat → World → Prop)
    (hPo : ∀ pre c W W' row, P pre c W → W.grownBy W' row → (∀ r, row = some r → w.heap.size ≤ r) → P pre c W')
    (hP : ∀ (l m : Nat) (pre : List Int) (c : Nat) (x : Int) (W : World), P pre c W → pre.length < 60000 → CallsIn (F.inRound l) m Tryd.prog gp (#[.int .i64 x] ++ cp) W fun e W' => ∃ b : Bool, e = .returned (.bool b) ∧ P (pre ++ [x]) (c + if b then 1 else 0) W' ∧ PickKeep w.heap.size n₀ W W')
    (hs : Sl w n₀ 2 A len (ps.flatMap Pk.cells)) (hn0 : n₀ ≤ w.heap.size) (hel : ps.length = len) (hsm : len ≤ 1000) (h0 : P [] 0 w) :
    CallsIn F n Tryd.prog 20 #[.func (.func gp) #[] cp, .slice A len cap] w fun e W' => ∃ c : Nat, e = .returned (.int .i64 c) ∧ P (allL ps) c W' := by
  have h1 : 1 ≤ n := by omega
  refine callsIn_of_wp_marks Tryd.func20 rfl h3 ?_ hro
  simp only [Tryd.ntmps20, List.size_toArray, List.length_cons, List.length_nil, Nat.reduceAdd, Nat.reduceSub, Array.replicate_succ, Array.replicate_zero, List.push_toArray, List.append_toArray, List.nil_append, List.cons_append]
  gi_wp2_with (gi_at_call 19; refine (all_in F (n - 1) h5 hro _ _ _ _).mono ?_; rintro e w' ⟨rfl, rfl⟩)
  have b0 := ((Blk.new w 48 #[.func (.func gp) #[] cp]).alloc (.cells #[.int .i64 0] 3)).alloc (.cells #[.slice A len cap] 23)
  have b1 : Blk (((w.alloc (.cells #[.func (.func gp) #[] cp] 48)).alloc (.cells #[.int .i64 0] 3)).alloc (.cells #[.slice A len cap] 23)) (w.heap.size + 1) 3 #[.int .i64 0] := (Blk.newAt _ _ _ (by simp)).alloc _
  have b2 : Blk (((w.alloc (.cells #[.func (.func gp) #[] cp] 48)).alloc (.cells #[.int .i64 0] 3)).alloc (.cells #[.slice A len cap] 23)) (w.heap.size + 1 + 1) 23 #[.slice A len cap] := Blk.newAt _ _ _ (by simp)
  have hsz : (((w.alloc (.cells #[.func (.func gp) #[] cp] 48)).alloc (.cells #[.int .i64 0] 3)).alloc (.cells #[.slice A len cap] 23)).heap.size = w.heap.size + 1 + 1 + 1 := by simp
  have hbw : Below w.heap.size w (((w.alloc (.cells #[.func (.func gp) #[] cp] 48)).alloc (.cells #[.int .i64 0] 3)).alloc (.cells #[.slice A len cap] 23)) := (((Below.refl _ _).alloc (Nat.le_refl _) _).alloc (by simp) _).alloc (by simp; omega) _
  have hP3 : P [] 0 (((w.alloc (.cells #[.func (.func gp) #[] cp] 48)).alloc (.cells #[.int .i64 0] 3)).alloc (.cells #[.slice A len cap] 23)) := hPo _ _ _ _ none (hPo _ _ _ _ none (hPo _ _ _ _ none h0 (World.grownBy_alloc _ _ none) (fun r e => by cases e)) (World.grownBy_alloc _ _ none) (fun r e => by cases e)) (World.grownBy_alloc _ _ none) (fun r e => by cases e)
  generalize (((w.alloc (.cells #[.func (.func gp) #[] cp] 48)).alloc (.cells #[.int .i64 0] 3)).alloc (.cells #[.slice A len cap] 23)) = W3 at *
  have hs3 := hs.below (hbw.mono hn0)
  have HSZ := Lib.hid hsz
  clear hsz
  refine wpIn_rangeFunc_ownG hro h1 (gf := 30) (lb := #[.pointer (some ⟨w.heap.size + 1 + 1, 0, none⟩)]) rfl h6 (enters_of Tryd.func30 (by kernel_rfl) rfl)
    (all_stops F (n - 1) h6 hro (by omega) (w.heap.size + 1 + 1) n₀ len cap A ps W3 b2.lt (by have := hbw.size; omega) (b2.cell 0) hs3 hel hsm) (fun h k => h.trans k) (pkKeep_b (by have := hbw.size; omega)) (Below.refl _ _) (fun _ => rfl)
    (fun pre W => ∃ c : Nat, c ≤ pre.length ∧ Blk W (w.heap.size + 1) 3 #[.int .i64 c] ∧ Blk W w.heap.size 48 #[.func (.func gp) #[] cp] ∧ P pre c W)
    (fun _ _ _ => False)
    (fun s X Y row ⟨c, hc, d1, d0, hp⟩ hg hr => ⟨c, hc, d1.grown hg (fun e => by have := (hr _ e).1; have := HSZ.out; omega), d0.grown hg (fun e => by have := (hr _ e).1; have := HSZ.out; omega), hPo _ _ _ _ row hp hg (fun r e => by have := (hr r e).1; have := HSZ.out; omega)⟩)
    (fun _ _ _ _ _ hs _ _ => hs)
    ⟨0, Nat.le_refl _, b1, b0, hP3⟩
    (fun x => { tmps := #[.func (.func gp) #[] cp, .slice A len cap, .pointer (some ⟨w.heap.size, 0, none⟩), undef, .int .i64 0, .pointer (some ⟨w.heap.size + 1, 0, none⟩), .int .i64 x, .slice A len cap, .func (.func 30) #[] #[.pointer (some ⟨w.heap.size + 1 + 1, 0, none⟩)], .int .i64 x, undef, undef, undef, undef, undef, undef], defers := [] }) ?assign ?body ?done ?stop
  case assign =>
    intro l x W K hK
    gi_wp2
    exact hK
  case body =>
    rintro l pre x W ⟨c, hc, d1, d0, hp⟩ hlen
    have hc0 := d0.cells
    have hc1 := d1.cells
    have hf1 := d1.frees
    have hcall := hP l (n - 1 - 1 - 1) pre c x W hp hlen
    gi_wp2
    refine ⟨fun _ => by omega, ?_⟩
    refine hcall.mono ?_
    rintro e W' ⟨b, rfl, hp', hk⟩
    have hkf : KeepsFrom W3.heap.size W W' := ⟨hk.pk.below.size, fun k o hB hk' ho => hk.own k o (by have := HSZ.out; omega) hk'⟩
    have d1' : Blk W' (w.heap.size + 1) 3 #[.int .i64 c] := hk.own _ _ (by omega) d1
    have d0' : Blk W' w.heap.size 48 #[.func (.func gp) #[] cp] := hk.own _ _ (Nat.le_refl _) d0
    have hc1' := d1'.cells
    have hf1' := d1'.frees
    clear hc0 hc1 hf1 hcall hp
    cases b
    · gi_wp2
      exact ⟨hkf, hk.pk, c, by simp; omega, d1', d0', hp'⟩
    · gi_wp2
      have hg : W'.grownBy (W'.setCell ⟨w.heap.size + 1, 0, none⟩ (.int .i64 ((c : Int) + 1))) (some (w.heap.size + 1)) := grownBy_setCell' _ _ _
      refine ⟨hkf.trans ((KeepsOthers.setCell _ _ _).from _), hk.pk.trans ⟨(Below.refl _ _).setCell (p := ⟨w.heap.size + 1, 0, none⟩) (by simp; omega) _, fun g cs hb => hb.far (Blk.ne_ hb d1' (by decide)) _⟩, c + 1, by simp; omega, d1'.set_ 0 _, d0'.far (by simp) _, hPo _ _ _ _ _ hp' hg (fun r e => by cases e; omega)⟩
  case done =>
    rintro D ys W hD rfl ⟨c, hc, d1, d0, hp⟩ hK
    have hc1 := d1.cells
    gi_wp2
    refine ⟨by simp, .inl ⟨_, _, rfl, run_takeDeferred hK, ?_⟩⟩
    exact ⟨_, results_tmp rfl _ _ _, c, rfl, hPo _ _ _ _ (some D) hp (grownBy_putObj' _ D (.deferred none)) (fun r e => by cases e; have := HSZ.out; omega)⟩
  case stop =>
    rintro D c pre W _ _ h _
    exact h.elim
end Go.Proofs.YtiihhpmgfmiacaaDoor
