/- A region that draws its order: what reads may come as soon as it can, in any order; what writes, or calls, is forced one by one.
   Conditions: none (plain law on the model's regions). -/
import Derived.Test.YtboommppikfgnaaDoorLead
namespace Go.Proofs.YtboommppikfgnaaDoor
open Go Go.RowKit

section
variable {P : Program} {ops : Array Oper} {Q : Exit → Act → World → Prop} {md : Region.Mode} {S : World → Prop} {n : Nat}

/-- phases: reads, then one operation that is forced; at last reads, and what follows them -/
def wpPh (P : Program) (ops : Array Oper) (Q : Exit → Act → World → Prop) (S : World → Prop) (F : Act → World → Prop) : List (List Nat × Nat) → Act → World → Prop
  | [], a, w => F a w
  | (ls, i) :: ph, a, w => wpQuiet P ops S (fun a' => wpOp P ops Q i (fun a'' w'' => S w'' ∧ wpPh P ops Q S F ph a'' w'') a' w) (opsAt ops ls) a

/-- the reads ls lead to the state in which they are listed -/
def phB (md : Region.Mode) (ops : Array Oper) (n : Nat) (sunk : List Nat) : List (List Nat × Nat) → Array Bool → Bool
  | [], _ => true
  | (ls, i) :: ph, listed => leadB md ops n sunk ls listed && decide (Region.ready md ops (setAll ls listed) = [i]) && phB md ops n sunk ph ((setAll ls listed).setIfInBounds i true)
def setPh : List (List Nat × Nat) → Array Bool → Array Bool
  | [], listed => listed
  | (ls, i) :: ph, listed => setPh ph ((setAll ls listed).setIfInBounds i true)
def lenPh : List (List Nat × Nat) → Nat
  | [] => 0
  | (ls, _) :: ph => ls.length + 1 + lenPh ph

/-- reads, one behind the other, whatever follows -/
theorem wpAnyN_reads (hs : Region.noSelect ops = true) (hc : Region.chainB md ops n = true)
    (hQ : ∀ c a d v w, Q (.panic c) (Act.put a d v) w → Q (.panic c) a w) (k : Nat) :
    ∀ (ls : List Nat) (listed : Array Bool) (a : Act) (w : World), LInv md ops listed → leadB md ops n (sunkGo md ops n [n]) ls listed = true → S w →
      wpQuiet P ops S (fun a' => LInv md ops (setAll ls listed) → wpAnyN P md ops Q S n k (setAll ls listed) a' w) (opsAt ops ls) a → wpAnyN P md ops Q S n (ls.length + k) listed a w
  | [], listed, a, w, inv, _, _, h => by
    simp only [opsAt, List.map_nil, wpQuiet, setAll] at h
    simpa [setAll] using h inv
  | i :: ls, listed, a, w, inv, hB, hS, h => by
    simp only [leadB, Bool.and_eq_true] at hB
    obtain ⟨hok, hB⟩ := hB
    unfold leadOk at hok
    cases hoi : ops[i]? with
    | none => simp [hoi] at hok
    | some oi =>
      simp only [hoi, Bool.and_eq_true] at hok
      obtain ⟨⟨hr, hf⟩, hp, hm⟩ := hok
      have hri : i ∈ Region.ready md ops listed := by simpa using hr
      have hq : qOp P ops S i (wpQuiet P ops S (fun a' => LInv md ops (setAll ls (listed.setIfInBounds i true)) → wpAnyN P md ops Q S n k (setAll ls (listed.setIfInBounds i true)) a' w) (opsAt ops ls)) a := by
        unfold qOp
        simp only [hoi]
        simp only [opsAt, List.map_cons, opsAt_some hoi, wpQuiet, setAll] at h
        exact h
      obtain ⟨v, hy, hK⟩ := yieldsIn_of_qOp hoi hq
      have hval : ∀ w, Region.wanted oi (yielded ops a.tmps) = true → S w → oi.quietAt P a S w v → (execOp a.eval oi).run P w = .ok (.value v) w := by
        intro w _ _ h1
        unfold Oper.quietAt at h1
        generalize hr : (execOp a.eval oi).run P w = r at h1
        cases r with
        | halt x w' => simp only [Oper.quietUpon] at h1
        | ok r w' =>
          obtain ⟨u, rfl⟩ := plain_value hp hr
          simp only [Oper.quietUpon] at h1
          rw [h1.1, h1.2]
      have hy' : YieldsIf P ops S oi v a := by
        rcases hy with ⟨hw, hv⟩ | ⟨hw, hv⟩
        · exact .inl ⟨hw, fun w hS => hval w hw hS (hv w hS)⟩
        · exact .inr ⟨hw, hv⟩
      have hrec := wpAnyN_reads hs hc hQ k ls (listed.setIfInBounds i true) (a.put oi.dst v) w (inv.set hri) hB hS hK
      have hlen : (i :: ls).length + k = (ls.length + k) + 1 := by simp only [List.length_cons]; omega
      rw [hlen]
      cases hmv : isMove ops i with
      | true =>
        have hany : YieldsIf P ops (fun _ => True) oi v a := by
          rcases hy' with ⟨hw, hv⟩ | ⟨hw, hv⟩
          · refine .inl ⟨hw, fun w' _ => ?_⟩
            have h1 := hv w hS
            unfold isMove at hmv
            simp only [hoi] at hmv
            unfold execOp at h1 ⊢
            split at hmv
            · rename_i x ho
              rw [ho] at h1 ⊢
              simp at h1 ⊢
              exact h1
            · cases hmv
          · exact .inr ⟨hw, hv⟩
        exact wpAnyN_first (S' := fun _ => True) hoi (Region.noSelect_spec hs) (fun c a w => hQ c a oi.dst v w) (fun _ _ => trivial) (fun _ _ _ _ _ _ _ _ => trivial) _ _ _ _ inv (Region.free_spec hoi hf) hri hany trivial hrec
          (fun _ _ h => by simp [need, hmv] at h)
      | false =>
        have hsk : (sunkGo md ops n [n]).contains i = true ∧ i < n := by
          simpa [hmv] using hm
        refine wpAnyN_first hoi (Region.noSelect_spec hs) (fun c a w => hQ c a oi.dst v w) (fun _ h => h) ?_ _ listed a w inv (Region.free_spec hoi hf) hri hy' hS hrec (fun _ h _ => h)
        intro listed' j inv' hun hj hnj hji w'
        exfalso
        have hjl : j < ops.size := by
          obtain ⟨_, oj, hoj, _⟩ := mem_ready.1 hj
          exact (Array.getElem?_eq_some_iff.1 hoj).1
        have hpn := chain_down inv' hc (j - n) j (by omega) hjl (preds_of_ready hj)
        rcases sunk_done inv' hpn n [n] (fun k hk => .inl (by simpa using hk)) i (by simpa using hsk.1) with h1 | h1
        · omega
        · rw [getD_both hun] at h1; cases h1

theorem wpQuiet_mono {K K' : Act → Prop} (h : ∀ a, K a → K' a) : ∀ (l : List Oper) (a : Act), wpQuiet P ops S K l a → wpQuiet P ops S K' l a
  | [], _, hh => h _ hh
  | o :: l, a, hh => by
    unfold wpQuiet at hh ⊢
    split
    · rename_i hw
      rw [if_pos hw] at hh
      exact Oper.quiet_mono (fun a => wpQuiet_mono h l a) hh
    · rename_i hw
      rw [if_neg hw] at hh
      exact wpQuiet_mono h l _ hh

theorem wpAnyN_ph (hs : Region.noSelect ops = true) (hc : Region.chainB md ops n = true)
    (hQ : ∀ c a d v w, Q (.panic c) (Act.put a d v) w → Q (.panic c) a w) (ls is : List Nat) :
    ∀ (ph : List (List Nat × Nat)) (listed : Array Bool) (a : Act) (w : World), LInv md ops listed → phB md ops n (sunkGo md ops n [n]) ph listed = true →
      leadB md ops n (sunkGo md ops n [n]) ls (setPh ph listed) = true → tailB md ops is (setAll ls (setPh ph listed)) = true → S w →
      wpPh P ops Q S (fun a w => wpQuiet P ops S (fun a' => wpTail P ops Q S n is a' w) (opsAt ops ls) a) ph a w → wpAnyN P md ops Q S n (lenPh ph + ls.length + is.length) listed a w
  | [], listed, a, w, inv, _, hl, ht, hS, h => by
    simp only [lenPh, Nat.zero_add, wpPh, setPh] at h hl ht ⊢
    exact wpAnyN_lead hs hc hQ is ls listed a w inv hl ht hS h
  | (rs, i) :: ph, listed, a, w, inv, hp, hl, ht, hS, h => by
    simp only [phB, Bool.and_eq_true, decide_eq_true_eq] at hp
    obtain ⟨⟨h1, h2⟩, h3⟩ := hp
    simp only [setPh] at hl ht
    have e : lenPh ((rs, i) :: ph) + ls.length + is.length = rs.length + ((lenPh ph + ls.length + is.length) + 1) := by simp only [lenPh]; omega
    rw [e]
    refine wpAnyN_reads hs hc hQ _ rs listed a w inv h1 hS ?_
    simp only [wpPh] at h
    refine wpQuiet_mono (fun a' h' inv' => ?_) _ _ h
    refine ⟨fun hr => (by rw [h2] at hr; cases hr), fun j hj => ?_⟩
    have hij : j = i := by rw [h2] at hj; simpa using hj
    subst hij
    refine wpOp_mono (fun a'' w'' h'' => ⟨fun _ => h''.1, ?_⟩) h'
    exact wpAnyN_ph hs hc hQ ls is ph _ a'' w'' (inv'.set hj) h3 hl ht h''.1 h''.2

/-- **Reads whenever they can come, calls and writes one by one.** n: where the late tail begins; ph: phases; ls: the reads behind them; is: the rest, in its one order. -/
theorem wp_region_ph {id : Nat} {l : List Oper} {a : Act} {w : World} (S : World → Prop) (n : Nat) (ph : List (List Nat × Nat)) (ls is : List Nat) (hm : P.follows .mixedOrders = true)
    (hB : (Region.noSelect l.toArray && Region.chainB .any l.toArray n && decide (lenPh ph + ls.length + is.length = l.length) && phB .any l.toArray n (sunkGo .any l.toArray n [n]) ph (Array.replicate l.toArray.size false) &&
      leadB .any l.toArray n (sunkGo .any l.toArray n [n]) ls (setPh ph (Array.replicate l.toArray.size false)) &&
      tailB .any l.toArray is (setAll ls (setPh ph (Array.replicate l.toArray.size false)))) = true)
    (hS : S w.drew) (h : wpPh P l.toArray (NoPanic Q) S (fun a w => wpQuiet P l.toArray S (fun a' => wpTail P l.toArray (NoPanic Q) S n is a' w) (opsAt l.toArray ls) a) ph a w.drew) : (Code.region id l.toArray true).wp P Q a w := by
  refine wp_region_noPanic ?_
  simp only [Bool.and_eq_true, decide_eq_true_eq] at hB
  obtain ⟨⟨⟨⟨⟨h1, h2⟩, h3⟩, h4⟩, h5⟩, h6⟩ := hB
  refine wp_region_any hm (wpAny_of_N (S := S) (n := n) _ _ _ _ ?_)
  have := wpAnyN_ph (Q := NoPanic Q) h1 h2 (fun _ _ _ _ _ h => h) ls is ph _ a w.drew (LInv.start .any l.toArray) h4 h5 h6 hS h
  rw [h3] at this
  simpa using this

/-- the next phase -/
theorem wpPh_cons {F : Act → World → Prop} {rs : List Nat} {i : Nat} {ph : List (List Nat × Nat)} {a : Act} {w : World}
    (h : wpQuiet P ops S (fun a' => wpOp P ops Q i (fun a'' w'' => S w'' ∧ wpPh P ops Q S F ph a'' w'') a' w) (opsAt ops rs) a) : wpPh P ops Q S F ((rs, i) :: ph) a w := h
theorem wpPh_nil {F : Act → World → Prop} {a : Act} {w : World} (h : F a w) : wpPh P ops Q S F [] a w := h
/-- the forced operation of a phase -/
theorem wpPh_op {F : Act → World → Prop} {i : Nat} {o : Oper} {ph : List (List Nat × Nat)} {a : Act} {w : World} (ho : ops[i]? = some o)
    (h : ∀ K : Act → World → Prop, (∀ a' w', S w' → wpPh P ops Q S F ph a' w' → K a' w') → if Region.wanted o (yielded ops a.tmps) = true then Oper.wp P o a w K Q else K (a.put o.dst undef) w) :
    wpOp P ops Q i (fun a'' w'' => S w'' ∧ wpPh P ops Q S F ph a'' w'') a w := by
  have := h (fun a'' w'' => S w'' ∧ wpPh P ops Q S F ph a'' w'') (fun a' w' h1 h2 => ⟨h1, h2⟩)
  simp only [wpOp, ho]
  split
  · rename_i hw; rw [if_pos hw] at this; exact .inl this
  · rename_i hw; rw [if_neg hw] at this; exact this
end
end Go.Proofs.YtboommppikfgnaaDoor
