/- Contract of sched's Len.
   Conditions: at most 1000 picks. -/
import Derived.Test.YtiihhpmgfmiacaaDoorSchEach
namespace Go.Proofs.YtiihhpmgfmiacaaDoor
open Go Go.RowKit Go.Shelf
attribute [local go_sem] Oper.semAt_some

theorem len1_in (F : Fence) (n : Nat) (h : F.fn 29) (hro : F.round = none) (x : Int) (w : World) (l : Nat) :
    CallsIn (F.inRound l) n Tryd.prog 29 (#[.int .i64 x] ++ #[]) w fun e W' => e = .returned (.bool true) ∧ w = W' := by
  refine CallsIn.inRound l (F := F) ?_
  refine callsIn_of_wp Tryd.func29 rfl h ?_ hro
  simp only [Tryd.ntmps29, List.size_toArray, List.length_cons, List.length_nil, Nat.reduceAdd, Nat.reduceSub, Array.replicate_succ, Array.replicate_zero, List.push_toArray, List.append_toArray, List.nil_append, List.cons_append]
  gi_wp2
  go_ret
  exact ⟨rfl, rfl⟩

theorem sch_each_len (A : Option Addr) (len cap : Nat) (ps : List Pk) (w : World) (hs : Sl w w.heap.size 2 A len (ps.flatMap Pk.cells)) (hel : ps.length = len) (hsm : len ≤ 1000) :
    Calls Tryd.prog 20 #[.func (.func 29) #[] #[], .slice A len cap] w fun e W' => e = .returned (.int .i64 ((allL ps).length : Nat)) ∧ Below w.heap.size w W' := by
  refine (callsIn_wide (n := 3)).1 ?_
  refine (each_in _ 3 trivial trivial trivial rfl (by omega) 29 #[] trivial (enters_of Tryd.func29 (by kernel_rfl) rfl) len cap w.heap.size A ps w
    (fun pre c W => c = pre.length ∧ Below w.heap.size w W)
    (fun pre c W W' row ⟨hc, hb⟩ hg hr => ⟨hc, hb.grown hg hb.size (fun k e => hr k e)⟩)
    (fun l m pre c x W ⟨hc, hb⟩ _ => (len1_in _ m trivial rfl x W l).mono ?_) hs (Nat.le_refl _) hel hsm ⟨rfl, Below.refl _ _⟩).mono ?_
  · rintro e W' ⟨rfl, rfl⟩
    exact ⟨true, rfl, ⟨by simp [hc], hb⟩, ⟨⟨Below.refl _ _, fun _ _ h => h⟩, fun _ _ _ h => h⟩⟩
  · rintro e W' ⟨c, rfl, hc, hb⟩
    exact ⟨by rw [hc], hb⟩

theorem sch_len (A : Option Addr) (len cap : Nat) (ps : List Pk) (w : World) (hs : Sl w w.heap.size 2 A len (ps.flatMap Pk.cells)) (hel : ps.length = len) (hsm : len ≤ 1000) :
    Calls Tryd.prog 18 #[.slice A len cap] w fun e W' => e = .returned (.int .i64 ((allL ps).length : Nat)) ∧ Below w.heap.size w W' := by
  go_enter Tryd.func18, Tryd.ntmps18
  go_wp2_with fail
  refine (sch_each_len A len cap ps w hs hel hsm).mono ?_
  rintro e w1 ⟨rfl, hb⟩
  go_wp2_with fail
  go_ret
  exact ⟨rfl, hb⟩
end Go.Proofs.YtiihhpmgfmiacaaDoor
