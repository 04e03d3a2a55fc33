/- A region that draws its order: the operations that only read come first in any order, what writes is a chain at the end.
   Conditions: none (plain law on the model's regions). -/
import Derived.Test.YtboommppikfgnaaDoorMem
import Derived.Deep.QuietTactic
import Derived.StillTail
import Derived.OrdersHeld
import Derived.Deep.RegionHeld3
namespace Go.Proofs.YtboommppikfgnaaDoor
open Go Go.RowKit

theorem andThen_ok_inv {α β : Type} {r : Result α} {f : α → World → Result β} {b : β} {w : World} (h : r.andThen f = .ok b w) : ∃ a w', r = .ok a w' ∧ f a w' = .ok b w := by
  cases r with
  | ok a w' => exact ⟨a, w', rfl, h⟩
  | halt x w' => cases h

theorem bind_value {P : Program} {s : Sem Value} {w w' : World} {r : Next} (h : (s.bind fun x => Sem.pure (Next.value x)).run P w = .ok r w') : ∃ v, r = .value v := by
  rw [Sem.run_bind'] at h
  obtain ⟨a, w1, _, h1⟩ := andThen_ok_inv h
  simp [Sem.run] at h1
  exact ⟨a, h1.1.symm⟩

/-- operations that hand back a value, and enter no function -/
def plainOp (o : Oper) : Bool :=
  match o.op with
  | .move _ | .assign _ | .build _ _ | .load _ _ | .binOp _ _ _ _ _ | .unOp _ _ _ | .convert _ _ _ | .fieldAddr _ _ _ | .field _ _ _ | .indexAddr _ _ _ | .extract _ _ | .slice _ _ _ _ _ => true
  | .nilCheck _ => true
  | .pick _ _ _ => true
  | .call { callee := .builtin .len, .. } => true
  | .call { callee := .builtin .cap, .. } => true
  | _ => false

theorem plain_value {P : Program} {o : Oper} (hp : plainOp o = true) {ρ : Operand → Value} {w w' : World} {r : Next} (h : (execOp ρ o).run P w = .ok r w') : ∃ v, r = .value v := by
  unfold plainOp at hp
  unfold execOp at h
  split at hp
  case h_13 ho =>
    rw [ho] at h
    simp only at h
    split at h
    · simp [runtimePanic, goPanic] at h
    · simp [runtimePanic, goPanic] at h
    · simp [runtimePanic, goPanic] at h
    · split at h
      · simp [runtimePanic, goPanic] at h
      · simp only [Sem.run_bind] at h
        obtain ⟨_, _, _, h1⟩ := andThen_ok_inv h
        obtain ⟨c, _, _, h1⟩ := andThen_ok_inv h1
        by_cases hc : (c != some false) = true
        · rw [if_pos hc] at h1; simp [unsupported] at h1
        · rw [if_neg hc] at h1; simp at h1; exact ⟨_, h1.1.symm⟩
      · simp at h; exact ⟨_, h.1.symm⟩
    · simp at h; exact ⟨_, h.1.symm⟩
  case h_14 ho =>
    rw [ho] at h
    simp only [Sem.run_bind] at h
    obtain ⟨_, _, _, h1⟩ := andThen_ok_inv h
    simp at h1
    exact ⟨_, h1.1.symm⟩
  case h_15 ho =>
    rw [ho] at h
    simp only [resolve, invoke, builtin, Sem.run_bind, Sem.run_pure, Result.andThen_ok] at h
    obtain ⟨_, _, _, h1⟩ := andThen_ok_inv h
    simp at h1
    exact ⟨_, h1.1.symm⟩
  case h_16 ho =>
    rw [ho] at h
    simp only [resolve, invoke, builtin, Sem.run_bind, Sem.run_pure, Result.andThen_ok] at h
    obtain ⟨_, _, _, h1⟩ := andThen_ok_inv h
    simp at h1
    exact ⟨_, h1.1.symm⟩
  case h_17 => cases hp
  all_goals
    rename_i ho
    rw [ho] at h
    first
      | exact bind_value h
      | (simp at h; exact ⟨_, h.1.symm⟩)

section
variable {P : Program} {ops : Array Oper} {Q : Exit → Act → World → Prop} {md : Region.Mode} {S : World → Prop} {n : Nat}

/-- is it a copy? -/
def isMove (ops : Array Oper) (i : Nat) : Bool :=
  match ops[i]? with
  | some o => (match o.op with | .move _ => true | _ => false)
  | none => false
def need (ops : Array Oper) (n i : Nat) : Bool := decide (i < n) && !isMove ops i

theorem wpOp_move {i : Nat} {K : Act → World → Prop} {a : Act} {w : World} (hm : isMove ops i = true) (h : wpOp P ops Q i K a w) : wpOp P ops Q i (fun a' w' => w' = w ∧ K a' w') a w := by
  unfold isMove at hm
  unfold wpOp at h ⊢
  cases ho : ops[i]? with
  | none => simp [ho] at hm
  | some o =>
    simp only [ho] at hm h ⊢
    split at hm
    · rename_i x hx
      split at h
      · rename_i hw
        simp only [hw, if_true]
        rcases h with h | h
        · refine .inl ?_
          have hr : (execOp a.eval o).run P w = .ok (.value (a.eval x)) w := by unfold execOp; rw [hx]; simp
          unfold Oper.wp at h ⊢
          rw [hr] at h ⊢
          exact ⟨rfl, h⟩
        · exact .inr h
      · rename_i hw
        simp only [hw]
        exact ⟨trivial, h⟩
    · cases hm

/-- Whatever order is picked; S behind every operation below number n that is no copy. -/
def wpAnyN (P : Program) (md : Region.Mode) (ops : Array Oper) (Q : Exit → Act → World → Prop) (S : World → Prop) (n : Nat) : Nat → Array Bool → Act → World → Prop
  | 0, listed, a, w => Region.ready md ops listed = [] ∧ Q .normal a w
  | fuel + 1, listed, a, w =>
    (Region.ready md ops listed = [] → Q .normal a w) ∧
    ∀ i ∈ Region.ready md ops listed, wpOp P ops Q i (fun a' w' => (need ops n i = true → S w') ∧ wpAnyN P md ops Q S n fuel (listed.setIfInBounds i true) a' w') a w

theorem wpAny_of_N : ∀ (fuel : Nat) (listed : Array Bool) (a : Act) (w : World), wpAnyN P md ops Q S n fuel listed a w → wpAny P md ops Q fuel listed a w
  | 0, _, _, _, h => h
  | fuel + 1, _, _, _, h => ⟨h.1, fun i hi => wpOp_mono (fun a' w' h' => wpAny_of_N fuel _ a' w' h'.2) (h.2 i hi)⟩

structure LInv (md : Region.Mode) (ops : Array Oper) (listed : Array Bool) : Prop where
  size : listed.size = ops.size
  closed : ∀ j oj, ops[j]? = some oj → listed.getD j false = true → ∀ e ∈ oj.after, Region.binds md e = true → listed.getD e.on false = true

theorem LInv.start (md : Region.Mode) (ops : Array Oper) : LInv md ops (Array.replicate ops.size false) :=
  ⟨by simp, fun j oj _ h => by rw [getD_replicate_false] at h; cases h⟩

theorem LInv.set {i : Nat} {listed : Array Bool} (inv : LInv md ops listed) (hi : i ∈ Region.ready md ops listed) : LInv md ops (listed.setIfInBounds i true) := by
  obtain ⟨_, oi, hoi, hall⟩ := mem_ready.1 hi
  refine ⟨by simp [inv.size], fun j oj hj hl e he hb => ?_⟩
  by_cases hij : i = j
  · subst hij
    have : oj = oi := Option.some.inj (hj.symm.trans hoi)
    subst this
    exact getD_set_true (hall e he hb)
  · rw [getD_set_ne false hij] at hl
    exact getD_set_true (inv.closed j oj hj hl e he hb)

/-- all that the operation at j waits for has come up -/
def PredsDone (md : Region.Mode) (ops : Array Oper) (listed : Array Bool) (j : Nat) : Prop := ∀ i, Region.waitsFor md ops j i = true → listed.getD i false = true

theorem preds_of_ready {listed : Array Bool} {j : Nat} (h : j ∈ Region.ready md ops listed) : PredsDone md ops listed j := by
  intro i hw
  obtain ⟨oj, hoj, e, he, hb, rfl⟩ := Region.waitsFor_spec hw
  obtain ⟨_, oj', hoj', hall⟩ := mem_ready.1 h
  have : oj = oj' := Option.some.inj (hoj.symm.trans hoj')
  subst this
  exact hall e he hb
theorem preds_of_done {listed : Array Bool} {j : Nat} (inv : LInv md ops listed) (h : listed.getD j false = true) : PredsDone md ops listed j := by
  intro i hw
  obtain ⟨oj, hoj, e, he, hb, rfl⟩ := Region.waitsFor_spec hw
  exact inv.closed j oj hoj h e he hb

theorem chain_down {listed : Array Bool} (inv : LInv md ops listed) (hc : Region.chainB md ops n = true) : ∀ (d j : Nat), j = n + d → j < ops.size → PredsDone md ops listed j → PredsDone md ops listed n
  | 0, j, hj, _, h => by subst hj; simpa using h
  | d + 1, j, hj, hlt, h => by
    have h1 := List.all_eq_true.1 hc j (List.mem_range.2 hlt)
    simp only [Bool.or_eq_true, decide_eq_true_eq] at h1
    rcases h1 with h1 | h1
    · omega
    · exact chain_down inv hc d (j - 1) (by omega) (by omega) (preds_of_done inv (h _ h1))

/-- what number n waits for, by whatever way -/
def sunkGo (md : Region.Mode) (ops : Array Oper) : Nat → List Nat → List Nat
  | 0, acc => acc
  | i + 1, acc => sunkGo md ops i (if acc.any (fun j => Region.waitsFor md ops j i) then i :: acc else acc)
theorem sunk_done {listed : Array Bool} (inv : LInv md ops listed) (hn : PredsDone md ops listed n) : ∀ (i : Nat) (acc : List Nat), (∀ k ∈ acc, k = n ∨ listed.getD k false = true) →
    ∀ k ∈ sunkGo md ops i acc, k = n ∨ listed.getD k false = true
  | 0, _, h => h
  | i + 1, acc, h => by
    refine sunk_done inv hn i _ ?_
    split
    · rename_i hany
      obtain ⟨j, hj, hw⟩ := List.any_eq_true.1 hany
      intro k hk
      rcases List.mem_cons.1 hk with rfl | hk
      · refine .inr ?_
        rcases h j hj with rfl | hd
        · exact hn _ hw
        · exact preds_of_done inv hd _ hw
      · exact h k hk
    · exact h

/-- Number i may be taken first. -/
theorem wpAnyN_first {i : Nat} {oi : Oper} {v : Value} {S' : World → Prop} (hi : ops[i]? = some oi) (hsel : ∀ (j : Nat) (o : Oper) cs b, ops[j]? = some o → o.op ≠ .select cs b)
    (hQ : ∀ c a w, Q (.panic c) (a.put oi.dst v) w → Q (.panic c) a w) (himp : ∀ w, S w → S' w)
    (hlate : ∀ listed j, LInv md ops listed → listed.getD i true = false → j ∈ Region.ready md ops listed → n ≤ j → j ≠ i → ∀ w, S' w) :
    ∀ (fuel : Nat) (listed : Array Bool) (a : Act) (w : World), LInv md ops listed →
      (∀ j oj, ops[j]? = some oj → j ≠ i → listed.getD j true = false → (∀ e ∈ oj.after, Region.binds md e = true → e.on ≠ i) → oi.apart ops oj = true) →
      i ∈ Region.ready md ops listed → YieldsIf P ops S' oi v a → S' w →
      wpAnyN P md ops Q S n fuel (listed.setIfInBounds i true) (a.put oi.dst v) w → (∀ w, S' w → need ops n i = true → S w) → wpAnyN P md ops Q S n (fuel + 1) listed a w := by
  intro fuel
  induction fuel with
  | zero =>
    intro listed a w inv _ hr hy hS H hback
    refine ⟨fun h => (by rw [h] at hr; cases hr), fun j hj => ?_⟩
    by_cases hji : j = i
    · subst hji; exact hy.wpOp hi hS ⟨hback _ hS, H⟩
    · have := ready_mono hj hji
      rw [H.1] at this
      cases this
  | succ fuel ih =>
    intro listed a w inv hfree hr hy hS H hback
    refine ⟨fun h => (by rw [h] at hr; cases hr), fun j hj => ?_⟩
    by_cases hji : j = i
    · subst hji; exact hy.wpOp hi hS ⟨hback _ hS, H⟩
    · have h1 := H.2 j (ready_mono hj hji)
      obtain ⟨hjun, oj, hoj, hall⟩ := mem_ready.1 hj
      have hun := (mem_ready.1 hr).1
      have hnot : ∀ e ∈ oj.after, Region.binds md e = true → e.on ≠ i := fun e he hb heq => by
        have h1 := hall e he hb
        rw [heq, getD_both hun] at h1
        cases h1
      have h2 := wpOp_putIf hoj (hfree j oj hoj hji hjun hnot) (fun cs b => hsel i oi cs b hi) (fun cs b => hsel j oj cs b hoj) hQ hy h1
      have hfree' : ∀ k ok, ops[k]? = some ok → k ≠ i → (listed.setIfInBounds j true).getD k true = false →
          (∀ e ∈ ok.after, Region.binds md e = true → e.on ≠ i) → oi.apart ops ok = true := fun k ok hk hki hun hno => by
        refine hfree k ok hk hki ?_ hno
        by_cases hjk : j = k
        · subst hjk; exact hjun
        · rw [getD_set_ne true hjk] at hun; exact hun
      have h4 : wpOp P ops Q j (fun a' w' => S' w' ∧ (YieldsIf P ops S' oi v a' ∧ (need ops n j = true → S w') ∧ wpAnyN P md ops Q S n fuel ((listed.setIfInBounds i true).setIfInBounds j true) (a'.put oi.dst v) w')) a w := by
        by_cases hmj : isMove ops j = true
        · exact wpOp_mono (fun a' w' h3 => ⟨by rw [h3.1]; exact hS, h3.2⟩) (wpOp_move hmj h2)
        · refine wpOp_mono (fun a' w' h3 => ⟨?_, h3⟩) h2
          rcases Nat.lt_or_ge j n with hjn | hjn
          · exact himp _ (h3.2.1 (by simp [need, hjn, hmj]))
          · exact hlate listed j inv hun hj hjn hji w'
      refine wpOp_mono (fun a' w' h3 => ⟨h3.2.2.1, ?_⟩) h4
      refine ih (listed.setIfInBounds j true) a' w' (inv.set hj) hfree' (ready_mono hr (Ne.symm hji)) h3.2.1 h3.1 ?_ hback
      rw [Array.setIfInBounds_comm _ _ hji]
      exact h3.2.2.2

/-- may number i be taken first? -/
def leadOk (md : Region.Mode) (ops : Array Oper) (n : Nat) (sunk : List Nat) (listed : Array Bool) (i : Nat) : Bool :=
  (Region.ready md ops listed).contains i && Region.free md ops listed i &&
  match ops[i]? with
  | some o => plainOp o && (isMove ops i || sunk.contains i && decide (i < n))
  | none => false
def leadB (md : Region.Mode) (ops : Array Oper) (n : Nat) (sunk : List Nat) : List Nat → Array Bool → Bool
  | [], _ => true
  | i :: is, listed => leadOk md ops n sunk listed i && leadB md ops n sunk is (listed.setIfInBounds i true)
def tailB (md : Region.Mode) (ops : Array Oper) : List Nat → Array Bool → Bool
  | [], listed => (Region.ready md ops listed).isEmpty
  | i :: is, listed => decide (Region.ready md ops listed = [i]) && tailB md ops is (listed.setIfInBounds i true)
def setAll : List Nat → Array Bool → Array Bool
  | [], listed => listed
  | i :: is, listed => setAll is (listed.setIfInBounds i true)
def opsAt (ops : Array Oper) (is : List Nat) : List Oper := is.map fun i => ops.toList.getD i default
theorem opsAt_some {i : Nat} {o : Oper} (h : ops[i]? = some o) : ops.toList.getD i default = o := by
  rw [← Array.getElem?_toList] at h
  simp [List.getD, h]

/-- The tail, in its one order. -/
def wpTail (P : Program) (ops : Array Oper) (Q : Exit → Act → World → Prop) (S : World → Prop) (n : Nat) : List Nat → Act → World → Prop
  | [], a, w => Q .normal a w
  | i :: is, a, w => wpOp P ops Q i (fun a' w' => (need ops n i = true → S w') ∧ wpTail P ops Q S n is a' w') a w

theorem wpAnyN_tail : ∀ (is : List Nat) (listed : Array Bool) (a : Act) (w : World), tailB md ops is listed = true → wpTail P ops Q S n is a w → wpAnyN P md ops Q S n is.length listed a w
  | [], listed, a, w, hB, h => ⟨by simpa [tailB] using hB, h⟩
  | i :: is, listed, a, w, hB, h => by
    simp only [tailB, Bool.and_eq_true, decide_eq_true_eq] at hB
    refine ⟨fun h1 => (by rw [hB.1] at h1; cases h1), fun j hj => ?_⟩
    rw [hB.1] at hj
    have : j = i := by simpa using hj
    subst this
    exact wpOp_mono (fun a' w' h' => ⟨h'.1, wpAnyN_tail is _ a' w' hB.2 h'.2⟩) h

theorem wpAnyN_lead (hs : Region.noSelect ops = true) (hc : Region.chainB md ops n = true)
    (hQ : ∀ c a d v w, Q (.panic c) (Act.put a d v) w → Q (.panic c) a w) (is : List Nat) :
    ∀ (ls : List Nat) (listed : Array Bool) (a : Act) (w : World), LInv md ops listed → leadB md ops n (sunkGo md ops n [n]) ls listed = true → tailB md ops is (setAll ls listed) = true → S w →
      wpQuiet P ops S (fun a' => wpTail P ops Q S n is a' w) (opsAt ops ls) a → wpAnyN P md ops Q S n (ls.length + is.length) listed a w
  | [], listed, a, w, _, _, ht, _, h => by
    simp only [opsAt, List.map_nil, wpQuiet] at h
    simpa using wpAnyN_tail is listed a w ht h
  | i :: ls, listed, a, w, inv, hB, ht, hS, h => by
    simp only [leadB, Bool.and_eq_true] at hB
    obtain ⟨hok, hB⟩ := hB
    unfold leadOk at hok
    cases hoi : ops[i]? with
    | none => simp [hoi] at hok
    | some oi =>
      simp only [hoi, Bool.and_eq_true] at hok
      obtain ⟨⟨hr, hf⟩, hp, hm⟩ := hok
      have hri : i ∈ Region.ready md ops listed := by simpa using hr
      have hq : qOp P ops S i (wpQuiet P ops S (fun a' => wpTail P ops Q S n is a' w) (opsAt ops ls)) a := by
        unfold qOp
        simp only [hoi]
        simp only [opsAt, List.map_cons, opsAt_some hoi, wpQuiet] at h
        exact h
      obtain ⟨v, hy, hK⟩ := yieldsIn_of_qOp hoi hq
      have hval : ∀ w, Region.wanted oi (yielded ops a.tmps) = true → S w → oi.quietAt P a S w v → (execOp a.eval oi).run P w = .ok (.value v) w := by
        intro w _ _ h1
        unfold Oper.quietAt at h1
        generalize hr : (execOp a.eval oi).run P w = r at h1
        cases r with
        | halt x w' => simp only [Oper.quietUpon] at h1
        | ok r w' =>
          obtain ⟨u, rfl⟩ := plain_value hp hr
          simp only [Oper.quietUpon] at h1
          rw [h1.1, h1.2]
      have hy' : YieldsIf P ops S oi v a := by
        rcases hy with ⟨hw, hv⟩ | ⟨hw, hv⟩
        · exact .inl ⟨hw, fun w hS => hval w hw hS (hv w hS)⟩
        · exact .inr ⟨hw, hv⟩
      have hrec := wpAnyN_lead hs hc hQ is ls (listed.setIfInBounds i true) (a.put oi.dst v) w (inv.set hri) hB ht hS hK
      have hlen : (i :: ls).length + is.length = (ls.length + is.length) + 1 := by simp only [List.length_cons]; omega
      rw [hlen]
      cases hmv : isMove ops i with
      | true =>
        -- a copy: in whatever world
        have hany : YieldsIf P ops (fun _ => True) oi v a := by
          rcases hy' with ⟨hw, hv⟩ | ⟨hw, hv⟩
          · refine .inl ⟨hw, fun w' _ => ?_⟩
            have h1 := hv w hS
            unfold isMove at hmv
            simp only [hoi] at hmv
            unfold execOp at h1 ⊢
            split at hmv
            · rename_i x ho
              rw [ho] at h1 ⊢
              simp at h1 ⊢
              exact h1
            · cases hmv
          · exact .inr ⟨hw, hv⟩
        exact wpAnyN_first (S' := fun _ => True) hoi (Region.noSelect_spec hs) (fun c a w => hQ c a oi.dst v w) (fun _ _ => trivial) (fun _ _ _ _ _ _ _ _ => trivial) _ _ _ _ inv (Region.free_spec hoi hf) hri hany trivial hrec
          (fun _ _ h => by simp [need, hmv] at h)
      | false =>
        have hsk : (sunkGo md ops n [n]).contains i = true ∧ i < n := by
          simpa [hmv] using hm
        refine wpAnyN_first hoi (Region.noSelect_spec hs) (fun c a w => hQ c a oi.dst v w) (fun _ h => h) ?_ _ listed a w inv (Region.free_spec hoi hf) hri hy' hS hrec (fun _ h _ => h)
        intro listed' j inv' hun hj hnj hji w'
        exfalso
        have hjl : j < ops.size := by
          obtain ⟨_, oj, hoj, _⟩ := mem_ready.1 hj
          exact (Array.getElem?_eq_some_iff.1 hoj).1
        have hpn := chain_down inv' hc (j - n) j (by omega) hjl (preds_of_ready hj)
        rcases sunk_done inv' hpn n [n] (fun k hk => .inl (by simpa using hk)) i (by simpa using hsk.1) with h1 | h1
        · omega
        · rw [getD_both hun] at h1; cases h1
/-- **What reads comes first, what writes is a chain.** n: where the late tail begins; ls: the numbers of what reads, in an order in which each may come; is: the numbers of the rest, in their one order. -/
theorem wp_region_lead {id : Nat} {l : List Oper} {a : Act} {w : World} (S : World → Prop) (n : Nat) (ls is : List Nat) (hm : P.follows .mixedOrders = true)
    (hB : (Region.noSelect l.toArray && Region.chainB .any l.toArray n && decide (ls.length + is.length = l.length) && leadB .any l.toArray n (sunkGo .any l.toArray n [n]) ls (Array.replicate l.toArray.size false) &&
      tailB .any l.toArray is (setAll ls (Array.replicate l.toArray.size false))) = true)
    (hS : S w.drew) (h : wpQuiet P l.toArray S (fun a' => wpTail P l.toArray (NoPanic Q) S n is a' w.drew) (opsAt l.toArray ls) a) : (Code.region id l.toArray true).wp P Q a w := by
  refine wp_region_noPanic ?_
  simp only [Bool.and_eq_true, decide_eq_true_eq] at hB
  obtain ⟨⟨⟨⟨h1, h2⟩, h3⟩, h4⟩, h5⟩ := hB
  refine wp_region_any hm (wpAny_of_N (S := S) (n := n) _ _ _ _ ?_)
  have := wpAnyN_lead (Q := NoPanic Q) h1 h2 (fun _ _ _ _ _ h => h) is ls _ a w.drew (LInv.start .any l.toArray) h4 h5 hS h
  rw [h3] at this
  simpa using this

/-- an early operation of the tail: S is shown behind it -/
theorem wpTail_early {i : Nat} {o : Oper} {is : List Nat} {a : Act} {w : World} (ho : ops[i]? = some o)
    (h : ∀ K : Act → World → Prop, (∀ a' w', S w' → wpTail P ops Q S n is a' w' → K a' w') → if Region.wanted o (yielded ops a.tmps) = true then Oper.wp P o a w K Q else K (a.put o.dst undef) w) :
    wpTail P ops Q S n (i :: is) a w := by
  have := h (fun a' w' => (need ops n i = true → S w') ∧ wpTail P ops Q S n is a' w') (fun a' w' h1 h2 => ⟨fun _ => h1, h2⟩)
  simp only [wpTail, wpOp, ho]
  split
  · rename_i hw; rw [if_pos hw] at this; exact .inl this
  · rename_i hw; rw [if_neg hw] at this; exact this
/-- the late tail is a plain list of operations -/
theorem wpTail_late : ∀ (is : List Nat) (a : Act) (w : World), (is.all fun i => decide (n ≤ i) && decide (i < ops.size)) = true → wpList P ops Q (opsAt ops is) a w → wpTail P ops Q S n is a w
  | [], _, _, _, h => h
  | i :: is, a, w, hs, h => by
    simp only [List.all_cons, Bool.and_eq_true, decide_eq_true_eq] at hs
    have ho : ops[i]? = some ops[i] := Array.getElem?_eq_getElem hs.1.2
    simp only [opsAt, List.map_cons, opsAt_some ho] at h
    simp only [wpTail, wpOp, ho]
    unfold wpList at h
    have hnd : need ops n i = false := by
      simp [need]; intro h; omega
    have step : ∀ a' w', wpList P ops Q (opsAt ops is) a' w' → (need ops n i = true → S w') ∧ wpTail P ops Q S n is a' w' := fun a' w' hh =>
      ⟨by simp [hnd], wpTail_late is a' w' hs.2 hh⟩
    split
    · rename_i hw; rw [if_pos hw] at h
      rcases h with h | h
      · exact .inl (Oper.wp_mono step h)
      · exact .inr h
    · rename_i hw; rw [if_neg hw] at h; exact step _ _ h
end
end Go.Proofs.YtboommppikfgnaaDoor
