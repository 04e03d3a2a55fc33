/- Texts that are wanted for PTopPaths.
   Conditions: none. -/
import Derived.Test.YtbcnnhlpilmmbaaGreatJPTopPaths06
set_option maxRecDepth 100000
set_option maxHeartbeats 6400000
namespace Go.Proofs.YtbcnnhlpilmmbaaGreat
open Go Go.RowKit
def S1 (b : Nat) (cs : Array Value) (W : World) : Prop := ∀ i : Nat, W.cell? ⟨b, i, none⟩ = cs[i]?
def S2 (b : Nat) (cs : Array Value) (b2 : Nat) (cs2 : Array Value) (W : World) : Prop := (∀ i : Nat, W.cell? ⟨b, i, none⟩ = cs[i]?) ∧ ∀ i : Nat, W.cell? ⟨b2, i, none⟩ = cs2[i]?
def S3 (b : Nat) (cs : Array Value) (b2 : Nat) (cs2 : Array Value) (b3 : Nat) (cs3 : Array Value) (W : World) : Prop := (∀ i : Nat, W.cell? ⟨b, i, none⟩ = cs[i]?) ∧ (∀ i : Nat, W.cell? ⟨b2, i, none⟩ = cs2[i]?) ∧ ∀ i : Nat, W.cell? ⟨b3, i, none⟩ = cs3[i]?
theorem s1_cells {b : Nat} {cs : Array Value} (q : Such (S1 b cs)) (i : Nat) : q.val.cell? ⟨b, i, none⟩ = cs[i]? := q.ok i
theorem s2_cells {b : Nat} {cs : Array Value} {b2 : Nat} {cs2 : Array Value} (q : Such (S2 b cs b2 cs2)) (i : Nat) : q.val.cell? ⟨b, i, none⟩ = cs[i]? := q.ok.1 i
theorem s2_cells2 {b : Nat} {cs : Array Value} {b2 : Nat} {cs2 : Array Value} (q : Such (S2 b cs b2 cs2)) (i : Nat) : q.val.cell? ⟨b2, i, none⟩ = cs2[i]? := q.ok.2 i
theorem s3_cells {b : Nat} {cs : Array Value} {b2 : Nat} {cs2 : Array Value} {b3 : Nat} {cs3 : Array Value} (q : Such (S3 b cs b2 cs2 b3 cs3)) (i : Nat) : q.val.cell? ⟨b, i, none⟩ = cs[i]? := q.ok.1 i
theorem s3_cells2 {b : Nat} {cs : Array Value} {b2 : Nat} {cs2 : Array Value} {b3 : Nat} {cs3 : Array Value} (q : Such (S3 b cs b2 cs2 b3 cs3)) (i : Nat) : q.val.cell? ⟨b2, i, none⟩ = cs2[i]? := q.ok.2.1 i
theorem s3_cells3 {b : Nat} {cs : Array Value} {b2 : Nat} {cs2 : Array Value} {b3 : Nat} {cs3 : Array Value} (q : Such (S3 b cs b2 cs2 b3 cs3)) (i : Nat) : q.val.cell? ⟨b3, i, none⟩ = cs3[i]? := q.ok.2.2 i
section
variable {W : World} {C : Nat → Nat} {c c2 c3 b b2 b3 : Nat} {t t2 t3 : TypeId} {cs cs2 cs3 : Array Value}
theorem such1 (h1 : SB W C c b t cs) : (∀ (q : Such (S1 b cs)) (i : Nat), q.val.cell? ⟨b, i, none⟩ = cs[i]?) ∧ Nonempty (Such (S1 b cs)) := ⟨s1_cells, Such.ne_ h1.blk.cells⟩
theorem mks1 (h1 : SB W C c b t cs) : ∃ q : Such (S1 b cs), W = q.val := Such.mk_ h1.blk.cells
theorem wp_such1 {P : Program} {Q : Exit → Act → World → Prop} {w : World} {id : Nat} {l : List Oper} {a : Act} (h1 : SB w.drew C c b t cs) (n : Nat) (ph : List (List Nat × Nat)) (ls is : List Nat) (hm : P.follows .mixedOrders = true)
  (hB : (Region.noSelect l.toArray && Region.chainB .any l.toArray n && decide (lenPh ph + ls.length + is.length = l.length) && phB .any l.toArray n (sunkGo .any l.toArray n [n]) ph (Array.replicate l.toArray.size false) &&
   leadB .any l.toArray n (sunkGo .any l.toArray n [n]) ls (setPh ph (Array.replicate l.toArray.size false)) && tailB .any l.toArray is (setAll ls (setPh ph (Array.replicate l.toArray.size false)))) = true)
  (h : wpPh P l.toArray (NoPanic Q) (fun w' => ∃ q : Such (S1 b cs), w' = q.val) (fun a w => wpQuiet P l.toArray (fun w' => ∃ q : Such (S1 b cs), w' = q.val) (fun a' => wpTail P l.toArray (NoPanic Q) (fun w' => ∃ q : Such (S1 b cs), w' = q.val) n is a' w) (opsAt l.toArray ls) a) ph a w.drew) : (Code.region id l.toArray true).wp P Q a w :=
 wp_region_ph (fun w' => ∃ q : Such (S1 b cs), w' = q.val) n ph ls is hm hB (mks1 h1) h
theorem such2 (h1 : SB W C c b t cs) (h2 : SB W C c2 b2 t2 cs2) : (∀ (q : Such (S2 b cs b2 cs2)) (i : Nat), q.val.cell? ⟨b, i, none⟩ = cs[i]?) ∧ (∀ (q : Such (S2 b cs b2 cs2)) (i : Nat), q.val.cell? ⟨b2, i, none⟩ = cs2[i]?) ∧ Nonempty (Such (S2 b cs b2 cs2)) := ⟨s2_cells, s2_cells2, Such.ne_ ⟨h1.blk.cells, h2.blk.cells⟩⟩
theorem mks2 (h1 : SB W C c b t cs) (h2 : SB W C c2 b2 t2 cs2) : ∃ q : Such (S2 b cs b2 cs2), W = q.val := Such.mk_ ⟨h1.blk.cells, h2.blk.cells⟩
theorem wp_such2 {P : Program} {Q : Exit → Act → World → Prop} {w : World} {id : Nat} {l : List Oper} {a : Act} (h1 : SB w.drew C c b t cs) (h2 : SB w.drew C c2 b2 t2 cs2) (n : Nat) (ph : List (List Nat × Nat)) (ls is : List Nat) (hm : P.follows .mixedOrders = true)
  (hB : (Region.noSelect l.toArray && Region.chainB .any l.toArray n && decide (lenPh ph + ls.length + is.length = l.length) && phB .any l.toArray n (sunkGo .any l.toArray n [n]) ph (Array.replicate l.toArray.size false) &&
   leadB .any l.toArray n (sunkGo .any l.toArray n [n]) ls (setPh ph (Array.replicate l.toArray.size false)) && tailB .any l.toArray is (setAll ls (setPh ph (Array.replicate l.toArray.size false)))) = true)
  (h : wpPh P l.toArray (NoPanic Q) (fun w' => ∃ q : Such (S2 b cs b2 cs2), w' = q.val) (fun a w => wpQuiet P l.toArray (fun w' => ∃ q : Such (S2 b cs b2 cs2), w' = q.val) (fun a' => wpTail P l.toArray (NoPanic Q) (fun w' => ∃ q : Such (S2 b cs b2 cs2), w' = q.val) n is a' w) (opsAt l.toArray ls) a) ph a w.drew) : (Code.region id l.toArray true).wp P Q a w :=
 wp_region_ph (fun w' => ∃ q : Such (S2 b cs b2 cs2), w' = q.val) n ph ls is hm hB (mks2 h1 h2) h
theorem such3 (h1 : SB W C c b t cs) (h2 : SB W C c2 b2 t2 cs2) (h3 : SB W C c3 b3 t3 cs3) : (∀ (q : Such (S3 b cs b2 cs2 b3 cs3)) (i : Nat), q.val.cell? ⟨b, i, none⟩ = cs[i]?) ∧ (∀ (q : Such (S3 b cs b2 cs2 b3 cs3)) (i : Nat), q.val.cell? ⟨b2, i, none⟩ = cs2[i]?) ∧ (∀ (q : Such (S3 b cs b2 cs2 b3 cs3)) (i : Nat), q.val.cell? ⟨b3, i, none⟩ = cs3[i]?) ∧ Nonempty (Such (S3 b cs b2 cs2 b3 cs3)) := ⟨s3_cells, s3_cells2, s3_cells3, Such.ne_ ⟨h1.blk.cells, h2.blk.cells, h3.blk.cells⟩⟩
theorem mks3 (h1 : SB W C c b t cs) (h2 : SB W C c2 b2 t2 cs2) (h3 : SB W C c3 b3 t3 cs3) : ∃ q : Such (S3 b cs b2 cs2 b3 cs3), W = q.val := Such.mk_ ⟨h1.blk.cells, h2.blk.cells, h3.blk.cells⟩
theorem wp_such3 {P : Program} {Q : Exit → Act → World → Prop} {w : World} {id : Nat} {l : List Oper} {a : Act} (h1 : SB w.drew C c b t cs) (h2 : SB w.drew C c2 b2 t2 cs2) (h3 : SB w.drew C c3 b3 t3 cs3) (n : Nat) (ph : List (List Nat × Nat)) (ls is : List Nat) (hm : P.follows .mixedOrders = true)
  (hB : (Region.noSelect l.toArray && Region.chainB .any l.toArray n && decide (lenPh ph + ls.length + is.length = l.length) && phB .any l.toArray n (sunkGo .any l.toArray n [n]) ph (Array.replicate l.toArray.size false) &&
   leadB .any l.toArray n (sunkGo .any l.toArray n [n]) ls (setPh ph (Array.replicate l.toArray.size false)) && tailB .any l.toArray is (setAll ls (setPh ph (Array.replicate l.toArray.size false)))) = true)
  (h : wpPh P l.toArray (NoPanic Q) (fun w' => ∃ q : Such (S3 b cs b2 cs2 b3 cs3), w' = q.val) (fun a w => wpQuiet P l.toArray (fun w' => ∃ q : Such (S3 b cs b2 cs2 b3 cs3), w' = q.val) (fun a' => wpTail P l.toArray (NoPanic Q) (fun w' => ∃ q : Such (S3 b cs b2 cs2 b3 cs3), w' = q.val) n is a' w) (opsAt l.toArray ls) a) ph a w.drew) : (Code.region id l.toArray true).wp P Q a w :=
 wp_region_ph (fun w' => ∃ q : Such (S3 b cs b2 cs2 b3 cs3), w' = q.val) n ph ls is hm hB (mks3 h1 h2 h3) h
end
theorem word_Put_ (W : Wd) (x : Int) (hx : putW W = x) (w : World) : Calls Tryz.prog 161 #[W.val] w fun e w' => (∃ ec : Int, e = .returned (.tuple #[.int .u64 x, .int .i64 ec])) ∧ Below w.heap.size w w' := by
 subst hx
 exact (word_Put W w).mono fun e w' h => ⟨⟨_, h.1⟩, h.2⟩
theorem desc_Put_ (d : Ds) (x : Int) (hx : putD d = x) (w : World) : Calls Tryz.prog 100 #[d.vals] w fun e w' => (∃ ec : Int, e = .returned (.tuple #[.int .u64 x, .int .i64 ec])) ∧ Below w.heap.size w w' := by
 subst hx
 exact (desc_Put d w).mono fun e w' h => ⟨⟨_, h.1⟩, h.2⟩
theorem drew_set (X : World) (p : Addr) (u : Value) : X.drew.setCell p u = (X.setCell p u).drew := rfl
def Kcs (c s : Nat) : Nat → Prop := fun x => x = c ∨ x = s ∨ x = 1
theorem Kcs_mem (c s : Nat) : ∀ x, K1 x → Kcs c s x := fun _ h => .inr (.inr h)
theorem Kcs_c (c s : Nat) : ∀ x, Kc c x → Kcs c s x := fun _ h => h.elim .inl (fun h => .inr (.inr h))
theorem Kcs_0 (c s : Nat) : ∀ x, K0 c x → Kcs c s x := fun _ h => .inl h
theorem Kcs_s (c s : Nat) : ∀ x, K0 s x → Kcs c s x := fun _ h => .inr (.inl h)
theorem SB.mv {w w' : World} {C C' : Nat → Nat} {K : Nat → Prop} {T : List (Option TypeId)} {c b : Nat} {t : TypeId} {cs : Array Value} (h : SB w C c b t cs) (k : Fr C K T w w') (a : Agr w.heap.size C C') (hk : ¬ K c ∨ some t ∉ T) : SB w' C' c b t cs := SB.mk (h.blk.fr k (by rw [h.col]; exact hk)) ((a b h.lt).trans h.col)
theorem Row.mv {w w' : World} {C C' : Nat → Nat} {K : Nat → Prop} {T : List (Option TypeId)} {c : Nat} {e : TypeId} {size n : Nat} {v : Value} {xs : List Value} (h : Row w C c e size v n xs) (k : Fr C K T w w') (a : Agr w.heap.size C C') (hk : ¬ K c ∨ some e ∉ T) : Row w' C' c e size v n xs := by
 have h2 := h.agr a
 refine ⟨own_fr h.own k (hk.imp (fun h1 g hg => by rw [h.col g hg]; exact h1) id), h2.col⟩
theorem Sr.mv {w w' : World} {C C' : Nat → Nat} {K : Nat → Prop} {T : List (Option TypeId)} {c : Nat} {e : TypeId} {size n : Nat} {A : Option Addr} {xs : List Value} (h : Sr w C c e size A n xs) (k : Fr C K T w w') (a : Agr w.heap.size C C') (hk : ¬ K c ∨ some e ∉ T) : Sr w' C' c e size A n xs := by
 have h1 := h.fr k hk
 refine ⟨h1.sl, fun hn => ?_⟩
 obtain ⟨cs, hb, -⟩ := h1.blk hn
 obtain ⟨cs0, hb0, hc0⟩ := h.blk hn
 exact ⟨cs, hb, (a _ hb0.lt).trans hc0⟩
theorem GvAt.mv {w w' : World} {C C' : Nat → Nat} {K : Nat → Prop} {T : List (Option TypeId)} {c b : Nat} {L : Ly} {l : List Int} (h : GvAt w C c b L l) (k : Fr C K T w w') (a : Agr w.heap.size C C') (hk : ¬ K c ∨ (some 259 ∉ T ∧ some 3 ∉ T)) : GvAt w' C' c b L l := by
 obtain ⟨A, m, h1, h2, h3⟩ := h.ex
 exact ⟨⟨A, m, h1.mv k a (hk.imp id (·.1)), h2.mv k a (hk.imp id (·.2)), h3⟩, h.small⟩
theorem AlAt.mv {w w' : World} {C C' : Nat → Nat} {K : Nat → Prop} {T : List (Option TypeId)} {c b : Nat} {L : Ly} {x : AlS} (h : AlAt w C c b L x) (k : Fr C K T w w') (a : Agr w.heap.size C C') (hk : ¬ K c ∨ some 185 ∉ T) : AlAt w' C' c b L x := ⟨h.blk.mv k a hk, h.found, h.at_, h.left⟩
theorem ClAt.mv {w w' : World} {C C' : Nat → Nat} {K : Nat → Prop} {T : List (Option TypeId)} {c b : Nat} {L : Ly} {x : ClS} (h : ClAt w C c b L x) (k : Fr C K T w w') (a : Agr w.heap.size C C') (hk : ¬ K c ∨ some 230 ∉ T) : ClAt w' C' c b L x := ⟨h.blk.mv k a hk, h.word, h.found, h.at_⟩
theorem GcAt.mv {w w' : World} {C C' : Nat → Nat} {K : Nat → Prop} {T : List (Option TypeId)} {c b : Nat} {L : Ly} {x : GcS} (h : GcAt w C c b L x) (k : Fr C K T w w') (a : Agr w.heap.size C C') (hk : ¬ K c ∨ some 204 ∉ T) : GcAt w' C' c b L x := ⟨h.blk.mv k a hk, h.thread, h.at_⟩
theorem MemAt.mv {w w' : World} {C C' : Nat → Nat} {K : Nat → Prop} {T : List (Option TypeId)} {M : ML} {m : Mm} (h : MemAt w C M m) (k : Fr C K T w w') (a : Agr w.heap.size C C') (hk : ¬ K 1 ∨ (some 75 ∉ T ∧ some 34 ∉ T)) : MemAt w' C' M m :=
 MemAt.col (h.fr k hk) (a _ h.lts.1) (a _ h.lts.2)
structure SeenC (w : World) (C : Nat → Nat) (c b n : Nat) (l : List Int) : Prop where
 at_ : SeenAt w b n l
 col : C b = c
theorem wrap64_rng (x : Int) : -9223372036854775808 ≤ wrap64 x ∧ wrap64 x < 9223372036854775808 := by
 unfold wrap64; omega
theorem sx : (∀ (l : List Value) (i : Nat) (a : Value), l.toArray.setIfInBounds i a = (l.set i a).toArray) ∧ (∀ (x a : Value) (l : List Value), (x :: l).set 0 a = a :: l) ∧ (∀ (x a : Value) (l : List Value) (i : Nat), (x :: l).set (i + 1) a = x :: l.set i a) := ⟨by intros; simp, by intros; rfl, by intros; rfl⟩
theorem Fr.toBel {C : Nat → Nat} {L : List (Option TypeId)} {w w' : World} (h : Fr C (fun _ => False) L w w') : Below w.heap.size w w' := h.below (fun _ _ h => h) (Nat.le_refl _)
theorem ox : (∀ (ops : Array Oper) (is : List Nat), opsAt ops is = is.map fun i => ops.toList.getD i default) ∧ (∀ (f : Nat → Oper) (a : Nat) (l : List Nat), List.map f (a :: l) = f a :: List.map f l) ∧ (∀ (f : Nat → Oper), List.map f [] = []) ∧ (∀ (a d : Oper) (l : List Oper), (a :: l).getD 0 d = a) ∧ (∀ (a d : Oper) (l : List Oper) (n : Nat), (a :: l).getD (n + 1) d = l.getD n d) := ⟨fun _ _ => rfl, fun _ _ _ => rfl, fun _ => rfl, fun _ _ _ => rfl, fun _ _ _ _ => rfl⟩
theorem pho {P : Program} {ops : Array Oper} {Q : Exit → Act → World → Prop} {S : World → Prop} {F : Act → World → Prop} {i : Nat} {o : Oper} {ph : List (List Nat × Nat)} {a : Act} {w : World} (ho : ops[i]? = some o)
  (h : ∀ K : Act → World → Prop, (∀ a' w', S w' → wpPh P ops Q S F ph a' w' → K a' w') → if Region.wanted o (yielded ops a.tmps) = true then Oper.wp P o a w K Q else K (a.put o.dst undef) w) :
  wpQuiet P ops S (fun a' => wpOp P ops Q i (fun a'' w'' => S w'' ∧ wpPh P ops Q S F ph a'' w'') a' w) [] a := wpQuiet_nil (wpPh_op ho h)
theorem SeenC.mv {w w' : World} {C C' : Nat → Nat} {K : Nat → Prop} {T : List (Option TypeId)} {c b n : Nat} {l : List Int} (h : SeenC w C c b n l) (k : Fr C K T w w') (a : Agr w.heap.size C C') (hk : ¬ K c ∨ none ∉ T) : SeenC w' C' c b n l := ⟨h.at_.fr k h.col hk, (a _ h.at_.lt).trans h.col⟩
def Away (T T' : List (Option TypeId)) : Prop := ∀ x ∈ T, x ∉ T'
instance (T T' : List (Option TypeId)) : Decidable (Away T T') := by unfold Away; infer_instance
class Mv (P : Prop) (w : outParam World) (C : outParam (Nat → Nat)) (T : outParam (List (Option TypeId))) (Q : outParam (World → (Nat → Nat) → Prop)) : Prop where
 mv : ∀ {K : Nat → Prop} {T' : List (Option TypeId)} {w' : World} {C' : Nat → Nat}, P → Fr C K T' w w' → Agr w.heap.size C C' → Away T T' → Q w' C'
section
variable {w w' w0 : World} {C C' C0 : Nat → Nat} {c b n sz : Nat} {t : TypeId} {cs : Array Value} {L : Ly} {M : ML} {m : Mm} {K K' : Nat → Prop} {LT LT' : List (Option TypeId)}
instance : Mv (SB w C c b t cs) w C [some t] (fun w' C' => SB w' C' c b t cs) := ⟨fun h k a hk => h.mv k a (.inr (hk _ (List.mem_cons_self ..)))⟩
instance {v : Value} {xs : List Value} : Mv (Row w C c t sz v n xs) w C [some t] (fun w' C' => Row w' C' c t sz v n xs) := ⟨fun h k a hk => h.mv k a (.inr (hk _ (List.mem_cons_self ..)))⟩
instance {A : Option Addr} {xs : List Value} : Mv (Sr w C c t sz A n xs) w C [some t] (fun w' C' => Sr w' C' c t sz A n xs) := ⟨fun h k a hk => h.mv k a (.inr (hk _ (List.mem_cons_self ..)))⟩
instance {l : List Int} : Mv (GvAt w C c b L l) w C [some 259, some 3] (fun w' C' => GvAt w' C' c b L l) := ⟨fun h k a hk => h.mv k a (.inr ⟨hk _ (by decide), hk _ (by decide)⟩)⟩
instance {x : AlS} : Mv (AlAt w C c b L x) w C [some 185] (fun w' C' => AlAt w' C' c b L x) := ⟨fun h k a hk => h.mv k a (.inr (hk _ (by decide)))⟩
instance {x : ClS} : Mv (ClAt w C c b L x) w C [some 230] (fun w' C' => ClAt w' C' c b L x) := ⟨fun h k a hk => h.mv k a (.inr (hk _ (by decide)))⟩
instance {x : GcS} : Mv (GcAt w C c b L x) w C [some 204] (fun w' C' => GcAt w' C' c b L x) := ⟨fun h k a hk => h.mv k a (.inr (hk _ (by decide)))⟩
instance {l : List Int} : Mv (SeenC w C c b n l) w C [none] (fun w' C' => SeenC w' C' c b n l) := ⟨fun h k a hk => h.mv k a (.inr (hk _ (List.mem_cons_self ..)))⟩
instance : Mv (MemAt w C M m) w C [some 75, some 34] (fun w' C' => MemAt w' C' M m) := ⟨fun h k a hk => h.mv k a (.inr ⟨hk _ (by decide), hk _ (by decide)⟩)⟩
def Nw (_ : World) (_ : Nat → Nat) : Prop := True
theorem nwz (w : World) (C : Nat → Nat) {A B : Prop} (h : A → Nw w C → B) (a : A) : B := h a trivial
instance : Mv (Nw w C) w C [] (fun w' C' => Nw w' C') := ⟨fun _ _ _ _ => trivial⟩
class Gm (G : Prop) (w : outParam World) (C : outParam (Nat → Nat)) (B : outParam Prop) (T : outParam (List (Option TypeId))) (G' : outParam (World → (Nat → Nat) → Prop → Prop)) : Prop where
 mv : ((∀ {K : Nat → Prop} {T' : List (Option TypeId)} {w' : World} {C' : Nat → Nat} {B' : Prop}, Fr C K T' w w' → Agr w.heap.size C C' → Away T T' → G' w' C' B' → B') → B) → G
variable {G B P : Prop} {T T1 T2 : List (Option TypeId)} {Q : World → (Nat → Nat) → Prop} {G' : World → (Nat → Nat) → Prop → Prop}
instance (priority := low) Gm.one [Mv P w C T Q] : Gm (P → B) w C B T (fun w' C' B' => Q w' C' → B') := ⟨fun f p => f (fun k a hk g => g (Mv.mv p k a hk))⟩
instance Gm.cons [Mv P w C T1 Q] [Gm G w C B T2 G'] : Gm (P → G) w C B (T1 ++ T2) (fun w' C' B' => Q w' C' → G' w' C' B') :=
 ⟨fun f p => Gm.mv (G := G) (fun s => f (fun k a hk g => s k a (fun x hx => hk x (List.mem_append_right _ hx)) (g (Mv.mv p k a (fun x hx => hk x (List.mem_append_left _ hx))))))⟩
variable [Gm G w C B T G']
theorem mvm (hf : Fr C K' LT' w w') (a : Agr w.heap.size C C') (hK : ∀ x, K' x → K x) (hL : ∀ x, x ∈ LT' → x ∈ LT) (k : Agr w0.heap.size C0 C' → Fr C0 K LT w0 w' → G' w' C' B) (hT : Away T LT' := by decide) : Agr w0.heap.size C0 C → Fr C0 K LT w0 w → G :=
 fun ag fr => Gm.mv (G := G) (C := C) (fun s => s hf a hT (k (ag.trans a fr.size) (fr.trans (hf.mono hK hL) ag)))
theorem mvf (hf : Fr C K' LT' w w') (hK : ∀ x, K' x → K x) (hL : ∀ x, x ∈ LT' → x ∈ LT) (ag : Agr w0.heap.size C0 C) (k : Fr C0 K LT w0 w' → G' w' C B) (hT : Away T LT' := by decide) : Fr C0 K LT w0 w → G :=
 fun fr => Gm.mv (G := G) (C := C) (fun s => s hf (Agr.refl _ _) hT (k (fr.trans (hf.mono hK hL) ag)))
theorem mvb {T : List (Option TypeId)} [Gm G w C B T G'] (hb : Below w.heap.size w w') (k : Fr C0 K LT w0 w' → G' w' C B) : Fr C0 K LT w0 w → G :=
 fun fr => Gm.mv (G := G) (C := C) (fun s => s (Fr.of_below hb C (fun _ => False) []) (Agr.refl _ _) (fun _ _ h => by cases h) (k (fr.step hb)))
theorem drw {T : List (Option TypeId)} [Gm G w C B T G'] (k : Fr C0 K LT w0 w.drew → G' w.drew C B) : Fr C0 K LT w0 w → G := mvb (Below.refl _ _).drew k
theorem st1 (h : SB w C c b t cs) (i : Nat) (v : Value) (hK : ∀ x, K0 c x → K x) (ag : Agr w0.heap.size C0 C) (k : ∀ w', w.setCell ⟨b, i, none⟩ v = w' → Fr C0 K LT w0 w' → SB w' C c b t (cs.setIfInBounds i v) → G' w' C B) (hL : ∀ x, x ∈ [some t] → x ∈ LT := by decide) (hT : Away T [some t] := by decide) : Fr C0 K LT w0 w → G :=
 fun fr => Gm.mv (G := G) (C := C) (fun s => s (h.fr1 i v) (Agr.refl _ _) hT (k _ rfl (fr.trans ((h.fr1 i v).mono hK hL) ag) (h.set_ i v)))
theorem st1n (h : SB w C c b t cs) (i : Nat) (v : Value) (k : ∀ w', w.setCell ⟨b, i, none⟩ v = w' → Fr C0 K LT w0 w' → SB w' C c b t (cs.setIfInBounds i v) → G' w' C B) (hb : w0.heap.size ≤ b := by first | exact Nat.le_refl _ | assumption | (simp <;> omega) | omega) (hT : Away T [some t] := by decide) : Fr C0 K LT w0 w → G :=
 fun fr => Gm.mv (G := G) (C := C) (fun s => s (h.fr1 i v) (Agr.refl _ _) hT (k _ rfl (fr.new_ (p := ⟨b, i, none⟩) hb v) (h.set_ i v)))
theorem bx1 {T : List (Option TypeId)} [Gm G w C B T G'] (t : TypeId) (cs : Array Value) (k : ∀ w', w.alloc (.cells cs t) = w' → w0.heap.size ≤ w.heap.size → Fr C0 K LT w0 w' → SB w' C (C w.heap.size) w.heap.size t cs → G' w' C B) : Fr C0 K LT w0 w → G :=
 fun fr => Gm.mv (G := G) (C := C) (fun s => s (Fr.of_below ((Below.refl _ _).alloc (Nat.le_refl _) (.cells cs t)) C (fun _ => False) []) (Agr.refl _ _) (fun _ _ h => by cases h) (k _ rfl fr.size (fr.step ((Below.refl _ _).alloc (Nat.le_refl _) _)) (SB.new w C rfl t cs rfl)))
end
def stW (b : Nat) : World → List (Nat × Value) → World
 | w, [] => w
 | w, (i, v) :: l => stW b (w.setCell ⟨b, i, none⟩ v) l
def stC : Array Value → List (Nat × Value) → Array Value
 | cs, [] => cs
 | cs, (i, v) :: l => stC (cs.setIfInBounds i v) l
theorem cell_setCell_off (w : World) (b i j : Nat) (v : Value) (h : (i == j) = false) : (w.setCell ⟨b, i, none⟩ v).cell? ⟨b, j, none⟩ = w.cell? ⟨b, j, none⟩ :=
 World.cell?_setCell_other _ _ _ _ (by intro e; injection e with _ e; subst e; simp at h)
theorem cell_setCell_far (w : World) (b b' i j : Nat) (v : Value) (h : b ≠ b') : (w.setCell ⟨b, i, none⟩ v).cell? ⟨b', j, none⟩ = w.cell? ⟨b', j, none⟩ :=
 World.cell?_setCell_other _ _ _ _ (by intro e; injection e with e; exact h e)
theorem stR : (∀ (w : World) (p : Addr) (v : Value) (q : Addr), (w.setCell p v).frozen? q = w.frozen? q) ∧ (∀ (w : World) (b i j : Nat) (v : Value), (i == j) = false → (w.setCell ⟨b, i, none⟩ v).cell? ⟨b, j, none⟩ = w.cell? ⟨b, j, none⟩) ∧ (∀ (w : World) (b b' i j : Nat) (v : Value), b ≠ b' → (w.setCell ⟨b, i, none⟩ v).cell? ⟨b', j, none⟩ = w.cell? ⟨b', j, none⟩) := ⟨fun w p v q => World.frozen?_setCell w p q v, cell_setCell_off, cell_setCell_far⟩
theorem stx : (∀ b w, stW b w [] = w) ∧ (∀ b w i v l, stW b w ((i, v) :: l) = stW b (w.setCell ⟨b, i, none⟩ v) l) ∧ (∀ cs, stC cs [] = cs) ∧ ∀ cs i v l, stC cs ((i, v) :: l) = stC (cs.setIfInBounds i v) l := ⟨fun _ _ => rfl, fun _ _ _ _ _ => rfl, fun _ => rfl, fun _ _ _ _ => rfl⟩
theorem SB.sets {C : Nat → Nat} {c b : Nat} {t : TypeId} : ∀ (l : List (Nat × Value)) {w : World} {cs : Array Value}, SB w C c b t cs → Fr C (K0 c) [some t] w (stW b w l) ∧ SB (stW b w l) C c b t (stC cs l)
 | [], _, _, h => ⟨Fr.refl _ _ _ _, h⟩
 | (i, v) :: l, _, _, h => ⟨(h.fr1 i v).trans_ (SB.sets l (h.set_ i v)).1, (SB.sets l (h.set_ i v)).2⟩
theorem SB.fars {C : Nat → Nat} {c b b' : Nat} {t : TypeId} (hne : b' ≠ b) : ∀ (l : List (Nat × Value)) {w : World} {cs : Array Value}, SB w C c b' t cs → SB (stW b w l) C c b' t cs
 | [], _, _, h => h
 | (i, v) :: l, _, _, h => SB.fars hne l (h.far (p := ⟨b, i, none⟩) hne v)
theorem Fr.news {C0 : Nat → Nat} {K : Nat → Prop} {LT : List (Option TypeId)} {w0 : World} {b : Nat} (hb : w0.heap.size ≤ b) : ∀ (l : List (Nat × Value)) {w : World}, Fr C0 K LT w0 w → Fr C0 K LT w0 (stW b w l)
 | [], _, h => h
 | (i, v) :: l, _, h => Fr.news hb l (h.new_ (p := ⟨b, i, none⟩) hb v)
section
variable {w w' w0 : World} {C C0 : Nat → Nat} {c b : Nat} {t : TypeId} {cs : Array Value} {K : Nat → Prop} {LT : List (Option TypeId)} {G B : Prop} {T : List (Option TypeId)} {G' : World → (Nat → Nat) → Prop → Prop}
theorem st1d [Gm G w.drew C B T G'] (h : SB w.drew C c b t cs) (i : Nat) (v : Value) (hK : ∀ x, K0 c x → K x) (ag : Agr w0.heap.size C0 C) (k : ∀ w', (w.setCell ⟨b, i, none⟩ v).drew = w' → Fr C0 K LT w0 w' → SB w' C c b t (cs.setIfInBounds i v) → G' w' C B) (hL : ∀ x, x ∈ [some t] → x ∈ LT := by decide) (hT : Away T [some t] := by decide) : Fr C0 K LT w0 w.drew → G := st1 h i v hK ag k hL hT
theorem sts [Gm G w C B T G'] (h : SB w C c b t cs) (l : List (Nat × Value)) (hK : ∀ x, K0 c x → K x) (ag : Agr w0.heap.size C0 C) (k : ∀ w', stW b w l = w' → Fr C0 K LT w0 w' → SB w' C c b t (stC cs l) → G' w' C B) (hL : ∀ x, x ∈ [some t] → x ∈ LT := by decide) (hT : Away T [some t] := by decide) : Fr C0 K LT w0 w → G :=
 fun fr => Gm.mv (G := G) (C := C) (fun s => s (h.sets l).1 (Agr.refl _ _) hT (k _ rfl (fr.trans ((h.sets l).1.mono hK hL) ag) (h.sets l).2))
theorem stsn [Gm G w C B T G'] (h : SB w C c b t cs) (l : List (Nat × Value)) (k : ∀ w', stW b w l = w' → Fr C0 K LT w0 w' → SB w' C c b t (stC cs l) → G' w' C B) (hb : w0.heap.size ≤ b := by first | exact Nat.le_refl _ | assumption | (simp <;> omega) | omega) (hT : Away T [some t] := by decide) : Fr C0 K LT w0 w → G :=
 fun fr => Gm.mv (G := G) (C := C) (fun s => s (h.sets l).1 (Agr.refl _ _) hT (k _ rfl (fr.news hb l) (h.sets l).2))
theorem bx0 (w : World) (t : TypeId) (cs : Array Value) (k : ∀ (C : Nat → Nat) w', w.alloc (.cells cs t) = w' → Agr w.heap.size C C → Fr C (fun _ => False) [] w w' → SB w' C (C w.heap.size) w.heap.size t cs → B) : B :=
 k (fun _ => 0) _ rfl (Agr.refl _ _) (Fr.of_below ((Below.refl _ _).alloc (Nat.le_refl _) _) _ _ _) (SB.new w _ rfl t cs rfl)
theorem bxc (C : Nat → Nat) (w : World) (t : TypeId) (cs : Array Value) (k : ∀ w', w.alloc (.cells cs t) = w' → Agr w.heap.size C C → Fr C (fun _ => False) [] w w' → SB w' C (C w.heap.size) w.heap.size t cs → B) : B :=
 k _ rfl (Agr.refl _ _) (Fr.of_below ((Below.refl _ _).alloc (Nat.le_refl _) _) _ _ _) (SB.new w _ rfl t cs rfl)
theorem bx1d [Gm G w.drew C B T G'] (t : TypeId) (cs : Array Value) (k : ∀ w', (w.alloc (.cells cs t)).drew = w' → w0.heap.size ≤ w.heap.size → Fr C0 K LT w0 w' → SB w' C (C w.heap.size) w.heap.size t cs → G' w' C B) : Fr C0 K LT w0 w.drew → G := bx1 t cs k
theorem pur {P : Program} {f : FuncId} {args : Array Value} {R : Ending → Prop} {Q : Ending → World → Prop} (h : Calls P f args w (fun e w' => R e ∧ Below w.heap.size w w')) [Gm G w C (Calls P f args w Q) T G'] (k : ∀ e w', R e → Fr C0 K LT w0 w' → G' w' C (Q e w')) : Fr C0 K LT w0 w → G :=
 fun fr => Gm.mv (G := G) (C := C) (fun s => h.mono fun e w' hh => s (Fr.of_below hh.2 C (fun _ => False) []) (Agr.refl _ _) (fun _ _ h => by cases h) (k e w' hh.1 (fr.step hh.2)))
end
structure ScAt (w : World) (C : Nat → Nat) (c s b : Nat) (L : Ly) (x : ScS) : Prop where
 look : x.at_ < 2 * L.th → ScLook w C c b L x.nodes x.seen x.at_
 give : 2 * L.th ≤ x.at_ → ScGive w C c s b L x.at_ x.kept x.freed x.give
 at_ : 0 ≤ x.at_ ∧ x.at_ ≤ 2 * L.th
 small : Small x.nodes
 smallk : Small x.kept
 len : x.nodes.length ≤ 100000 ∧ x.give.length ≤ 100000
def TSc : List (Option TypeId) := [some 212, some 259, some 3, none]
def LSc : List (Option TypeId) := [some 212, some 259, none, some 75, some 34]
theorem LM_LSc : ∀ x, x ∈ LM → x ∈ LSc := by decide
theorem LGv_LSc : ∀ x, x ∈ LGv → x ∈ LSc := by decide
theorem Scan_LSc : ∀ x, x ∈ [some 212] → x ∈ LSc := by decide
theorem ScLook.mv {w w' : World} {C C' : Nat → Nat} {K : Nat → Prop} {T : List (Option TypeId)} {c b : Nat} {L : Ly} {l seen : List Int} {at_ : Int} (h : ScLook w C c b L l seen at_) (k : Fr C K T w w') (a : Agr w.heap.size C C') (hk : ¬ K c ∨ Away TSc T) : ScLook w' C' c b L l seen at_ := by
 obtain ⟨An, n, cn, mb, k0, h1, h2, h3, h3', h4, h5, h6⟩ := h.ex
 exact ⟨An, n, cn, mb, k0, h1, h2.mv k a (hk.imp id (fun h => h _ (by decide))), h3.mv k a (hk.imp id (fun h => h _ (by decide))), h3', h4.fr k h5 (hk.imp id (fun h => h _ (by decide))), (a _ h4.lt).trans h5, h6⟩
theorem ScGive.mv {w w' : World} {C C' : Nat → Nat} {K : Nat → Prop} {T : List (Option TypeId)} {c s b : Nat} {L : Ly} {at_ : Int} {kept freed give : List Int} (h : ScGive w C c s b L at_ kept freed give) (k : Fr C K T w w') (a : Agr w.heap.size C C') (hk : (¬ K c ∧ ¬ K s) ∨ Away TSc T) : ScGive w' C' c s b L at_ kept freed give := by
 obtain ⟨Ak, Af, nk, nf, ck, cf, bg, vn, vm, h1, h2, h3, h4, h5⟩ := h.ex
 exact ⟨Ak, Af, nk, nf, ck, cf, bg, vn, vm, h1, h2, h3.mv k a (hk.imp (·.1) (fun h => h _ (by decide))), h4.mv k a (hk.imp (·.2) (fun h => h _ (by decide))), h5.mv k a (hk.imp (·.1) (fun h => ⟨h _ (by decide), h _ (by decide)⟩))⟩
theorem ScAt.mv {w w' : World} {C C' : Nat → Nat} {K : Nat → Prop} {T : List (Option TypeId)} {c s b : Nat} {L : Ly} {x : ScS} (h : ScAt w C c s b L x) (k : Fr C K T w w') (a : Agr w.heap.size C C') (hk : (¬ K c ∧ ¬ K s) ∨ Away TSc T) : ScAt w' C' c s b L x :=
 ⟨fun h1 => (h.look h1).mv k a (hk.imp (·.1) id), fun h1 => (h.give h1).mv k a hk, h.at_, h.small, h.smallk, h.len⟩
theorem stepGv_len (M : ML) (m : Mm) (l : List Int) : (stepGv M m l).2.2.length ≤ l.length := by cases l <;> simp [stepGv]
theorem SeenAt.fr1 {w w' : World} {C : Nat → Nat} {c mb n : Nat} {l : List Int} (h : SeenAt w mb n l) (hC : C mb = c) (hg : w.grownBy w' (some mb)) : Fr C (K0 c) [none] w w' := by
 obtain ⟨D, ⟨es, clock, h4, -⟩, -⟩ := h
 refine (Fr.refl C (K0 c) [none] w).grown hg fun g e => ?_
 injection e with e
 subst e
 exact ⟨hC, _, h4, by simp [tyO]⟩
theorem None_LSc : ∀ x, x ∈ [none] → x ∈ LSc := by decide
structure ScW (C : Nat → Nat) (c s b : Nat) (M : ML) (r : Bool × Mm × ScS) (w : World) (e : Ending) (w' : World) : Prop where
 ret : e = .returned (.bool r.1)
 own : ∃ C', Agr w.heap.size C C' ∧ MemAt w' C' M r.2.1 ∧ ScAt w' C' c s b M.L r.2.2
 fr : Fr C (Kc c) LSc w w'
theorem scan_Step1 {w : World} {C : Nat → Nat} {c s b : Nat} {M : ML} {m : Mm} {x : ScS} (hm : MemAt w C M m) (h : ScAt w C c s b M.L x) (hat : 2 * M.L.th ≤ x.at_) : Calls Tryz.prog 137 #[.pointer (some ⟨b, 0, none⟩), .pointer (some ⟨M.b, 0, none⟩)] w (ScW C c s b M (stepSc M m x) w) := by
 obtain ⟨nodes, seen, at_, kept, freed, give⟩ := x
 have HST : Hid (stepSc M m ⟨nodes, seen, at_, kept, freed, give⟩ = ((stepGv M m give).1, (stepGv M m give).2.1, ⟨nodes, seen, at_, kept, freed, (stepGv M m give).2.2⟩)) := Lib.hid (by unfold stepSc; rw [if_pos hat])
 obtain ⟨-, hg, hat2, hsm, hsk, hln⟩ := h
 obtain ⟨Ak, Af, nk, nf, ck, cf, bg, vn, vm, hnk, hnf, sb, hrow, hgv⟩ := hg hat
 simp only at hat hat2 hsm hsk hln hnk hnf sb hrow hgv
 obtain ⟨r, hr⟩ : ∃ r, stepGv M m give = r := ⟨_, rfl⟩
 have HGV := fun W (h1 : MemAt W C M m) (h2 : GvAt W C c bg M.L give) => give_Step h1 h2 hln.2
 rw [hr] at HST HGV
 have d0 : decide (at_ ≥ 2 * M.L.th) = true := decide_eq_true hat
 clear hg
 go_enter Tryz.func137, Tryz.ntmps137
 have fr := Fr.refl C (Kc c) LSc w
 have ag := Agr.refl w.heap.size C
 go_wp2_with fail
 revert hgv; revert hrow; revert hm; revert sb; revert fr; refine drw ?_; intro fr sb hm hrow hgv
 obtain ⟨q1, qi⟩ := such1 sb
 refine wp_such1 sb 9 [] [0, 1, 2, 3, 4, 5, 6, 7] [8, 9] (by kernel_rfl) (by kernel_rfl) ?_
 refine wpPh_nil ?_; try simp only [ox]
 repeat (go_big_quiet_step (fail))
 refine wpQuiet_nil ?_
 refine wpTail_early rfl (fun K' hK' => ?_); go_simp
 ((with_reducible refine (guard_slots M.L hm.ok _).mono ?_); rintro e w1 ⟨rfl, hb1⟩)
 revert fr sb hm hrow hgv; refine mvb hb1 ?_; intro fr sb hm hrow hgv
 refine hK' _ _ (mks1 sb) ?_; clear hK' K'
 refine wpTail_late _ _ _ (by kernel_rfl) ?_; try simp only [ox]
 clear qi q1
 go_wp2_with fail
 refine NoPanic.normal ?_
 go_wp2_with fail
 refine (HGV _ hm hgv).mono ?_; clear hm hgv; rintro e w2 ⟨rfl, hm, hgv, hf⟩
 revert fr sb hrow; refine mvf hf (fun _ h => h) LGv_LSc ag ?_; clear hf; intro fr sb hrow
 go_wp2_with fail
 go_ret
 refine ⟨by rw [HST.out]; rfl, ⟨C, Agr.refl _ _, by rw [HST.out]; exact hm, ?_⟩, fr⟩
 rw [HST.out]
 exact ⟨fun h => by simp only at h; omega, fun _ => ⟨Ak, Af, nk, nf, ck, cf, bg, vn, vm, hnk, hnf, sb, hrow, hgv⟩, hat2, hsm, hsk, hln.1, by simp only; rw [← hr]; exact Nat.le_trans (stepGv_len M m give) hln.2⟩
theorem scan_Sc1 {w : World} {C : Nat → Nat} {c s b : Nat} {M : ML} {m : Mm} {x : ScS} (hm : MemAt w C M m) (h : ScAt w C c s b M.L x) (hat : x.at_ < 2 * M.L.th) (h0 : ¬ x.at_ + 1 = 2 * M.L.th) : Calls Tryz.prog 137 #[.pointer (some ⟨b, 0, none⟩), .pointer (some ⟨M.b, 0, none⟩)] w (ScW C c s b M (stepSc M m x) w) := by
 obtain ⟨nodes, seen, at_, kept, freed, give⟩ := x
 obtain ⟨hg, -, hat2, hsm, hsk, hln⟩ := h
 obtain ⟨An, n, cn, mb, k0, hn, sb, hsr, hcn, hse, hmb, hk0⟩ := hg hat
 simp only at hat hat2 hsm hsk hln hn sb hsr hse hk0 h0
 have hth := hm.ok.th
 have hvr := ld_rng hm (M.L.slot 0 at_)
 obtain ⟨v, hv⟩ : ∃ v, ld M m (M.L.slot 0 at_) = v := ⟨_, rfl⟩
 have HST : Hid (stepSc M m ⟨nodes, seen, at_, kept, freed, give⟩ = (false, m, (⟨nodes, wrap64 v :: seen, at_ + 1, kept, freed, give⟩ : ScS))) := Lib.hid (by unfold stepSc; rw [if_neg (by simp only; omega)]; rw [if_neg h0, hv]; rfl)
 rw [hv] at hvr
 have HV := Lib.hid hv
 have HN := Lib.hid hn
 have HSM := Lib.hid hsm
 have HSK := Lib.hid hsk
 have HLN := Lib.hid hln
 have hnn : n ≤ 100000 := by rw [← hn]; exact hln.1
 have d0 : decide (at_ ≥ 2 * M.L.th) = false := by simp; omega
 have e6 : wrap64 (at_ + 1) = at_ + 1 := IntWalk.wrap64_in _ (by omega)
 have hwr := wrap64_rng v
 replace hse : SeenC w C c mb k0 seen := ⟨hse, hmb⟩
 have H0 := Lib.hid h0
 clear hg hv hn hsm hsk hln h0
 go_enter Tryz.func137, Tryz.ntmps137
 have fr := Fr.refl C (Kc c) LSc w
 have ag := Agr.refl w.heap.size C
 go_wp2_with fail
 revert hse; revert hsr; revert hm; revert sb; revert fr; refine drw ?_; intro fr sb hm hsr hse
 obtain ⟨q1, qi⟩ := such1 sb
 refine wp_such1 sb 9 [] [0, 1, 2, 3, 4, 5, 6, 7] [8, 9] (by kernel_rfl) (by kernel_rfl) ?_
 refine wpPh_nil ?_; try simp only [ox]
 repeat (go_big_quiet_step (fail))
 refine wpQuiet_nil ?_
 refine wpTail_early rfl (fun K' hK' => ?_); go_simp
 ((with_reducible refine (guard_slots M.L hm.ok _).mono ?_); rintro e w1 ⟨rfl, hb1⟩)
 revert fr sb hm hsr hse; refine mvb hb1 ?_; intro fr sb hm hsr hse
 refine hK' _ _ (mks1 sb) ?_; clear hK' K'
 refine wpTail_late _ _ _ (by kernel_rfl) ?_; try simp only [ox]
 clear qi q1
 go_wp2_with fail
 refine NoPanic.normal ?_
 go_wp2_with fail
 revert fr sb hm hsr hse; refine drw ?_; intro fr sb hm hsr hse
 obtain ⟨q1, qi⟩ := such1 sb
 refine wp_such1 sb 16 [([0, 1, 2, 3, 4, 5, 6, 7, 8, 9, 10, 11, 12], 13), ([], 14)] [15] [16] (by kernel_rfl) (by kernel_rfl) ?_
 refine wpPh_cons ?_; simp only [ox]; repeat (go_big_quiet_step (fail))
 refine pho rfl (fun K' hK' => ?_); go_simp
 ((with_reducible refine (lay_Slot M.L hm.ok 0 at_ (by omega) (by omega) _).mono ?_); rintro e w2 ⟨rfl, hb2⟩)
 revert fr sb hm hsr hse; refine mvb hb2 ?_; intro fr sb hm hsr hse
 refine hK' _ _ (mks1 sb) ?_; clear hK' K'
 refine wpPh_cons ?_; simp only [ox]; repeat (go_big_quiet_step (fail))
 refine pho rfl (fun K' hK' => ?_); go_simp
 ((with_reducible refine (mem_Load hm (M.L.slot 0 at_)).mono ?_); clear hm; rintro e w3 ⟨rfl, hm, hf⟩)
 rw [HV.out]
 revert fr sb hsr hse; refine mvf hf (Kc_mem c) LM_LSc ag ?_; clear hf; intro fr sb hsr hse
 refine hK' _ _ (mks1 sb) ?_; clear hK' K'
 refine wpPh_nil ?_; try simp only [ox]
 repeat (go_big_quiet_step (fail))
 refine wpQuiet_nil ?_
 refine wpTail_late _ _ _ (by kernel_rfl) ?_; try simp only [ox]
 clear qi q1
 obtain ⟨w9, hput, hse9, hg9⟩ := hse.at_.put (by unfold maxLen; omega) (wrap64 v) (.int .i64 (wrap64 v)) (key_int _ hwr)
 have hf9 := hse.at_.fr1 hmb hg9
 go_wp2_with fail
 refine NoPanic.normal ?_
 revert hm sb hsr; revert fr; refine mvf hf9 (K0_Kc c) None_LSc ag ?_; clear hf9; intro fr hm sb hsr
 replace hse : SeenC w9 C c mb (k0 + 1) (wrap64 v :: seen) := ⟨hse9, hmb⟩
 clear hse9 hput hg9
 have z1 := sb
 revert hse; revert hsr; revert hm; revert fr; refine st1 sb 6 (.int .i64 (at_ + 1)) (K0_Kc c) ag ?_; clear sb; rintro w4 e1 fr sb hm hsr hse
 simp only [sx] at sb
 go_wp2_with fail
 clear z1 e1
 have d5 : ((at_ + 1 : Int) == 2 * M.L.th) = false := beq_eq_false_iff_ne.2 H0.out
 revert fr hm hsr hse sb; refine drw ?_; intro fr hm hsr hse sb
 obtain ⟨q1, qi⟩ := such1 sb
 refine wp_such1 sb 12 [([0, 1, 2, 3, 4, 5, 6, 7], 8)] [9, 10, 11] [12, 13, 14] (by kernel_rfl) (by kernel_rfl) ?_
 refine wpPh_cons ?_; simp only [ox]; repeat (go_big_quiet_step (fail))
 refine pho rfl (fun K' hK' => ?_); go_simp
 ((with_reducible refine (guard_slots M.L hm.ok _).mono ?_); rintro e w5 ⟨rfl, hb5⟩)
 revert fr hm hsr hse sb; refine mvb hb5 ?_; intro fr hm hsr hse sb
 refine hK' _ _ (mks1 sb) ?_; clear hK' K'
 refine wpPh_nil ?_; try simp only [ox]
 repeat (go_big_quiet_step (fail))
 refine wpQuiet_nil ?_
 refine wpTail_late _ _ _ (by kernel_rfl) ?_; try simp only [ox]
 clear qi q1
 go_wp2_with fail
 refine NoPanic.normal ?_
 go_wp2_with fail
 go_ret
 refine ⟨by rw [HST.out]; rfl, ⟨C, Agr.refl _ _, by rw [HST.out]; exact hm, ?_⟩, fr⟩
 rw [HST.out]
 have h0 := H0.out
 exact ⟨fun _ => ⟨An, n, cn, mb, k0 + 1, HN.out, sb, hsr, hcn, hse.at_, hmb, by simp only; omega⟩, fun h => by simp only at h; omega, by simp only; omega, HSM.out, HSK.out, HLN.out⟩
theorem scan_Sc2 {w : World} {C : Nat → Nat} {c s b : Nat} {M : ML} {m : Mm} {x : ScS} (hm : MemAt w C M m) (h : ScAt w C c s b M.L x) (hat : x.at_ < 2 * M.L.th) (h0 : x.at_ + 1 = 2 * M.L.th) : Calls Tryz.prog 137 #[.pointer (some ⟨b, 0, none⟩), .pointer (some ⟨M.b, 0, none⟩)] w (ScW C c s b M (stepSc M m x) w) := by
 obtain ⟨nodes, seen, at_, kept, freed, give⟩ := x
 obtain ⟨hg, -, hat2, hsm, hsk, hln⟩ := h
 obtain ⟨An, n, cn, mb, k0, hn, sb, hsr, hcn, hse, hmb, hk0⟩ := hg hat
 simp only at hat hat2 hsm hsk hln hn sb hsr hse hk0 h0
 have hth := hm.ok.th
 have hvr := ld_rng hm (M.L.slot 0 at_)
 obtain ⟨v, hv⟩ : ∃ v, ld M m (M.L.slot 0 at_) = v := ⟨_, rfl⟩
 have HST : Hid (stepSc M m ⟨nodes, seen, at_, kept, freed, give⟩ = ((⟨nodes, wrap64 v :: seen, at_ + 1, kept, freed, give⟩ : ScS).part.freed.isEmpty, m, (⟨nodes, wrap64 v :: seen, at_ + 1, kept, freed, give⟩ : ScS).part)) := Lib.hid (by unfold stepSc; rw [if_neg (by simp only; omega)]; rw [if_pos h0, hv]; rfl)
 rw [hv] at hvr
 have HV := Lib.hid hv
 have HN := Lib.hid hn
 have HSM := Lib.hid hsm
 have HSK := Lib.hid hsk
 have HLN := Lib.hid hln
 have hnn : n ≤ 100000 := by rw [← hn]; exact hln.1
 have d0 : decide (at_ ≥ 2 * M.L.th) = false := by simp; omega
 have e6 : wrap64 (at_ + 1) = at_ + 1 := IntWalk.wrap64_in _ (by omega)
 have hwr := wrap64_rng v
 replace hse : SeenC w C c mb k0 seen := ⟨hse, hmb⟩
 have H0 := Lib.hid h0
 clear hg hv hn hsm hsk hln h0
 go_enter Tryz.func137, Tryz.ntmps137
 have fr := Fr.refl C (Kc c) LSc w
 have ag := Agr.refl w.heap.size C
 go_wp2_with fail
 revert hse; revert hsr; revert hm; revert sb; revert fr; refine drw ?_; intro fr sb hm hsr hse
 obtain ⟨q1, qi⟩ := such1 sb
 refine wp_such1 sb 9 [] [0, 1, 2, 3, 4, 5, 6, 7] [8, 9] (by kernel_rfl) (by kernel_rfl) ?_
 refine wpPh_nil ?_; try simp only [ox]
 repeat (go_big_quiet_step (fail))
 refine wpQuiet_nil ?_
 refine wpTail_early rfl (fun K' hK' => ?_); go_simp
 ((with_reducible refine (guard_slots M.L hm.ok _).mono ?_); rintro e w1 ⟨rfl, hb1⟩)
 revert fr sb hm hsr hse; refine mvb hb1 ?_; intro fr sb hm hsr hse
 refine hK' _ _ (mks1 sb) ?_; clear hK' K'
 refine wpTail_late _ _ _ (by kernel_rfl) ?_; try simp only [ox]
 clear qi q1
 go_wp2_with fail
 refine NoPanic.normal ?_
 go_wp2_with fail
 revert fr sb hm hsr hse; refine drw ?_; intro fr sb hm hsr hse
 obtain ⟨q1, qi⟩ := such1 sb
 refine wp_such1 sb 16 [([0, 1, 2, 3, 4, 5, 6, 7, 8, 9, 10, 11, 12], 13), ([], 14)] [15] [16] (by kernel_rfl) (by kernel_rfl) ?_
 refine wpPh_cons ?_; simp only [ox]; repeat (go_big_quiet_step (fail))
 refine pho rfl (fun K' hK' => ?_); go_simp
 ((with_reducible refine (lay_Slot M.L hm.ok 0 at_ (by omega) (by omega) _).mono ?_); rintro e w2 ⟨rfl, hb2⟩)
 revert fr sb hm hsr hse; refine mvb hb2 ?_; intro fr sb hm hsr hse
 refine hK' _ _ (mks1 sb) ?_; clear hK' K'
 refine wpPh_cons ?_; simp only [ox]; repeat (go_big_quiet_step (fail))
 refine pho rfl (fun K' hK' => ?_); go_simp
 ((with_reducible refine (mem_Load hm (M.L.slot 0 at_)).mono ?_); clear hm; rintro e w3 ⟨rfl, hm, hf⟩)
 rw [HV.out]
 revert fr sb hsr hse; refine mvf hf (Kc_mem c) LM_LSc ag ?_; clear hf; intro fr sb hsr hse
 refine hK' _ _ (mks1 sb) ?_; clear hK' K'
 refine wpPh_nil ?_; try simp only [ox]
 repeat (go_big_quiet_step (fail))
 refine wpQuiet_nil ?_
 refine wpTail_late _ _ _ (by kernel_rfl) ?_; try simp only [ox]
 clear qi q1
 obtain ⟨w9, hput, hse9, hg9⟩ := hse.at_.put (by unfold maxLen; omega) (wrap64 v) (.int .i64 (wrap64 v)) (key_int _ hwr)
 have hf9 := hse.at_.fr1 hmb hg9
 go_wp2_with fail
 refine NoPanic.normal ?_
 revert hm sb hsr; revert fr; refine mvf hf9 (K0_Kc c) None_LSc ag ?_; clear hf9; intro fr hm sb hsr
 replace hse : SeenC w9 C c mb (k0 + 1) (wrap64 v :: seen) := ⟨hse9, hmb⟩
 clear hse9 hput hg9
 have z1 := sb
 revert hse; revert hsr; revert hm; revert fr; refine st1 sb 6 (.int .i64 (at_ + 1)) (K0_Kc c) ag ?_; clear sb; rintro w4 e1 fr sb hm hsr hse
 simp only [sx] at sb
 go_wp2_with fail
 clear z1 e1
 have d5 : ((at_ + 1 : Int) == 2 * M.L.th) = true := beq_iff_eq.2 H0.out
 revert fr hm hsr hse sb; refine drw ?_; intro fr hm hsr hse sb
 obtain ⟨q1, qi⟩ := such1 sb
 refine wp_such1 sb 12 [([0, 1, 2, 3, 4, 5, 6, 7], 8)] [9, 10, 11] [12, 13, 14] (by kernel_rfl) (by kernel_rfl) ?_
 refine wpPh_cons ?_; simp only [ox]; repeat (go_big_quiet_step (fail))
 refine pho rfl (fun K' hK' => ?_); go_simp
 ((with_reducible refine (guard_slots M.L hm.ok _).mono ?_); rintro e w5 ⟨rfl, hb5⟩)
 revert fr hm hsr hse sb; refine mvb hb5 ?_; intro fr hm hsr hse sb
 refine hK' _ _ (mks1 sb) ?_; clear hK' K'
 refine wpPh_nil ?_; try simp only [ox]
 repeat (go_big_quiet_step (fail))
 refine wpQuiet_nil ?_
 refine wpTail_late _ _ _ (by kernel_rfl) ?_; try simp only [ox]
 clear qi q1
 go_wp2_with fail
 have FSZ := fr.size
 refine (scan_parts (s := s) sb HN.out hnn HSM.out hsr hse.at_ hmb).mono ?_
 rintro e w8 ⟨rfl, ⟨C', hag, hgi⟩, hf⟩
 replace fr := fr.trans_ (hf.mono (K0_Kc c) Scan_LSc)
 have hm' := hm.mv hf hag (.inr ⟨by decide, by decide⟩)
 have hag' : Agr w.heap.size C C' := fun g hg => hag g (Nat.lt_of_lt_of_le hg FSZ)
 go_wp2_with fail
 refine NoPanic.normal ?_
 go_wp2_with fail
 go_ret
 refine ⟨by rw [HST.out]; rfl, ⟨C', hag', by rw [HST.out]; exact hm', ?_⟩, fr⟩
 rw [HST.out]
 have h0 := H0.out
 refine ⟨fun h => by simp only [ScS.part] at h; omega, fun _ => hgi, by simp only [ScS.part]; omega, HSM.out, fun x hx => HSM.out x (List.mem_filter.1 hx).1, HLN.out.1, Nat.le_trans (freeP_len _ _) HLN.out.1⟩
theorem scan_Step {w : World} {C : Nat → Nat} {c s b : Nat} {M : ML} {m : Mm} {x : ScS} (hm : MemAt w C M m) (h : ScAt w C c s b M.L x) : Calls Tryz.prog 137 #[.pointer (some ⟨b, 0, none⟩), .pointer (some ⟨M.b, 0, none⟩)] w (ScW C c s b M (stepSc M m x) w) := by
 by_cases hat : 2 * M.L.th ≤ x.at_
 ·exact scan_Step1 hm h hat
 ·by_cases h0 : x.at_ + 1 = 2 * M.L.th
  ·exact scan_Sc2 hm h (by omega) h0
  ·exact scan_Sc1 hm h (by omega) h0
structure StAt (w : World) (C : Nat → Nat) (s b : Nat) (L : Ly) (me : Int) (t : StS) : Prop where
 ex : ∃ (A : Option Addr) (n cap : Nat), t.ret.length = n ∧ SB w C s b 137 #[.int .i64 L.th, .int .i64 L.nd, .int .i64 me, .int .i64 t.spare, .slice A n cap] ∧ Row w C s 3 1 (.slice A n cap) n (ivs t.ret)
 me : 0 ≤ me ∧ me ≤ 7
 spare : 0 ≤ t.spare ∧ t.spare ≤ 1000
 small : Small t.ret
def TSt : List (Option TypeId) := [some 137, some 3]
theorem StAt.mv {w w' : World} {C C' : Nat → Nat} {K : Nat → Prop} {T : List (Option TypeId)} {s b : Nat} {L : Ly} {me : Int} {t : StS} (h : StAt w C s b L me t) (k : Fr C K T w w') (a : Agr w.heap.size C C') (hk : ¬ K s ∨ Away TSt T) : StAt w' C' s b L me t := by
 obtain ⟨A, n, cap, h1, h2, h3⟩ := h.ex
 exact ⟨⟨A, n, cap, h1, h2.mv k a (hk.imp id (fun h => h _ (by decide))), h3.mv k a (hk.imp id (fun h => h _ (by decide)))⟩, h.me, h.spare, h.small⟩
theorem StAt.fr {w w' : World} {C : Nat → Nat} {K : Nat → Prop} {T : List (Option TypeId)} {s b : Nat} {L : Ly} {me : Int} {t : StS} (h : StAt w C s b L me t) (k : Fr C K T w w') (hk : ¬ K s ∨ Away TSt T) : StAt w' C s b L me t := h.mv k (Agr.refl _ _) hk
theorem StAt.step {w w' : World} {C : Nat → Nat} {s b : Nat} {L : Ly} {me : Int} {t : StS} (h : StAt w C s b L me t) (k : Below w.heap.size w w') : StAt w' C s b L me t := h.mv (Fr.of_below k C (fun _ => False) []) (Agr.refl _ _) (.inr (by decide))
theorem StAt.agr {w : World} {C C' : Nat → Nat} {s b : Nat} {L : Ly} {me : Int} {t : StS} (h : StAt w C s b L me t) (a : Agr w.heap.size C C') : StAt w C' s b L me t := h.mv (Fr.refl C (fun _ => False) [] w) a (.inr (by decide))
instance {w : World} {C : Nat → Nat} {s b : Nat} {L : Ly} {me : Int} {t : StS} : Mv (StAt w C s b L me t) w C TSt (fun w' C' => StAt w' C' s b L me t) := ⟨fun h k a hk => h.mv k a (.inr hk)⟩
instance {w : World} {C : Nat → Nat} {c s b : Nat} {L : Ly} {x : ScS} : Mv (ScAt w C c s b L x) w C TSc (fun w' C' => ScAt w' C' c s b L x) := ⟨fun h k a hk => h.mv k a (.inr hk)⟩
def OptAt {α : Type} (o : Option α) (v : Value) (P : Nat → α → Prop) : Prop :=
 match o with
 | none => v = .pointer none
 | some a => ∃ b, v = .pointer (some ⟨b, 0, none⟩) ∧ P b a
theorem OptAt.imp {α : Type} {o : Option α} {v : Value} {P P' : Nat → α → Prop} (h : OptAt o v P) (hi : ∀ b a, P b a → P' b a) : OptAt o v P' := by
 cases o with
 | none => exact h
 | some a => obtain ⟨b, h1, h2⟩ := h; exact ⟨b, h1, hi b a h2⟩
structure SwAt (w : World) (C : Nat → Nat) (c s sb b : Nat) (L : Ly) (x : SwS) : Prop where
 ex : ∃ p, SB w C c b 207 #[.pointer (some ⟨sb, 0, none⟩), p] ∧ OptAt x p (fun bs y => ScAt w C c s bs L y)
def TSw : List (Option TypeId) := some 207 :: TSc
theorem SwAt.mv {w w' : World} {C C' : Nat → Nat} {K : Nat → Prop} {T : List (Option TypeId)} {c s sb b : Nat} {L : Ly} {x : SwS} (h : SwAt w C c s sb b L x) (k : Fr C K T w w') (a : Agr w.heap.size C C') (hk : (¬ K c ∧ ¬ K s) ∨ Away TSw T) : SwAt w' C' c s sb b L x := by
 obtain ⟨p, h1, h2⟩ := h.ex
 exact ⟨p, h1.mv k a (hk.imp (·.1) (fun h => h _ (by decide))), h2.imp fun bs y hy => hy.mv k a (hk.imp id (fun h x hx => h x (List.mem_cons_of_mem _ hx)))⟩
instance {w : World} {C : Nat → Nat} {c s sb b : Nat} {L : Ly} {x : SwS} : Mv (SwAt w C c s sb b L x) w C TSw (fun w' C' => SwAt w' C' c s sb b L x) := ⟨fun h k a hk => h.mv k a (.inr hk)⟩
structure EnAt (w : World) (C : Nat → Nat) (c s sb b : Nat) (L : Ly) (e : EnS) : Prop where
 ex : ∃ pa pw, SB w C c b 182 #[.pointer (some ⟨sb, 0, none⟩), .bool e.short, pa, pw, .bool e.done] ∧ OptAt e.scan pw (fun bw y => SwAt w C c s sb bw L y) ∧ (e.scan = none → OptAt e.alloc pa (fun ba y => AlAt w C c ba L y ∧ 0 ≤ y.got ∧ y.got ≤ 1000))
def TEn : List (Option TypeId) := some 182 :: some 185 :: TSw
theorem EnAt.mv {w w' : World} {C C' : Nat → Nat} {K : Nat → Prop} {T : List (Option TypeId)} {c s sb b : Nat} {L : Ly} {x : EnS} (h : EnAt w C c s sb b L x) (k : Fr C K T w w') (a : Agr w.heap.size C C') (hk : (¬ K c ∧ ¬ K s) ∨ Away TEn T) : EnAt w' C' c s sb b L x := by
 obtain ⟨pa, pw, h1, h2, h3⟩ := h.ex
 exact ⟨pa, pw, h1.mv k a (hk.imp (·.1) (fun h => h _ (by decide))), h2.imp fun bs y hy => hy.mv k a (hk.imp id (fun h x hx => h x (List.mem_cons_of_mem _ (List.mem_cons_of_mem _ hx)))),
  fun hs => (h3 hs).imp fun bs y hy => ⟨hy.1.mv k a (hk.imp (·.1) (fun h => h _ (by decide))), hy.2⟩⟩
theorem EnAt.fr {w w' : World} {C : Nat → Nat} {K : Nat → Prop} {T : List (Option TypeId)} {c s sb b : Nat} {L : Ly} {x : EnS} (h : EnAt w C c s sb b L x) (k : Fr C K T w w') (hk : (¬ K c ∧ ¬ K s) ∨ Away TEn T) : EnAt w' C c s sb b L x := h.mv k (Agr.refl _ _) hk
instance {w : World} {C : Nat → Nat} {c s sb b : Nat} {L : Ly} {x : EnS} : Mv (EnAt w C c s sb b L x) w C TEn (fun w' C' => EnAt w' C' c s sb b L x) := ⟨fun h k a hk => h.mv k a (.inr hk)⟩
structure PrAt (w : World) (C : Nat → Nat) (c sb b : Nat) (p : PrS) : Prop where
 blk : SB w C c b 236 #[.pointer (some ⟨sb, 0, none⟩), .int .i64 p.key, .int .i64 p.next, .int .u64 p.found, .bool p.loaded]
 found : 0 ≤ p.found ∧ p.found < 18446744073709551616
def TPr : List (Option TypeId) := [some 236]
theorem PrAt.mv {w w' : World} {C C' : Nat → Nat} {K : Nat → Prop} {T : List (Option TypeId)} {c sb b : Nat} {x : PrS} (h : PrAt w C c sb b x) (k : Fr C K T w w') (a : Agr w.heap.size C C') (hk : ¬ K c ∨ Away TPr T) : PrAt w' C' c sb b x := ⟨h.blk.mv k a (hk.imp id (fun h => h _ (by decide))), h.found⟩
theorem PrAt.fr {w w' : World} {C : Nat → Nat} {K : Nat → Prop} {T : List (Option TypeId)} {c sb b : Nat} {x : PrS} (h : PrAt w C c sb b x) (k : Fr C K T w w') (hk : ¬ K c ∨ Away TPr T) : PrAt w' C c sb b x := h.mv k (Agr.refl _ _) hk
instance {w : World} {C : Nat → Nat} {c sb b : Nat} {x : PrS} : Mv (PrAt w C c sb b x) w C TPr (fun w' C' => PrAt w' C' c sb b x) := ⟨fun h k a hk => h.mv k a (.inr hk)⟩
theorem newb {w w0 : World} {C C0 : Nat → Nat} {c : Nat} {X : World → (Nat → Nat) → Nat → Prop} {K : Nat → Prop} {LT T : List (Option TypeId)} {G : Prop} {G' : World → (Nat → Nat) → Prop → Prop} {P : Program} {f : FuncId} {args : Array Value} {Q : Ending → World → Prop} (h : Calls P f args w (NewW C c X w)) [Gm G w C (Calls P f args w Q) T G']
  (k : ∀ w' b C', Agr w0.heap.size C0 C' → Fr C0 K LT w0 w' → X w' C' b → G' w' C' (Q (.returned (.pointer (some ⟨b, 0, none⟩))) w')) : Agr w0.heap.size C0 C → Fr C0 K LT w0 w → G :=
 fun ag fr => Gm.mv (G := G) (C := C) (fun s => h.mono fun e w' hh => by
  obtain ⟨⟨b, rfl, -, hx⟩, hb⟩ := hh
  exact s (Fr.of_below hb C (fun _ => False) []) (Agr.paint _ _ _) (fun _ _ h => by cases h) (k w' b _ (ag.trans (Agr.paint _ _ _) fr.size) (fr.step hb) hx))
theorem store_New (L : Ly) (me : Int) (hme : 0 ≤ me ∧ me ≤ 7) (C : Nat → Nat) (s : Nat) (w : World) : Calls Tryz.prog 58 #[L.val, .int .i64 me] w (NewW C s (fun w' C' b => StAt w' C' s b L me ⟨0, []⟩) w) := by
 obtain ⟨th, nd⟩ := L
 simp only [Ly.val]
 go_enter Tryz.func58, Tryz.ntmps58
 go_wp2_with fail
 have hb0 : Below w.heap.size w (w.alloc (.cells #[.int .i64 th, .int .i64 nd] 31)) := (Below.refl _ _).alloc (Nat.le_refl _) _
 go_ret
 exact ⟨⟨w.heap.size + 1, rfl, by omega, ⟨none, 0, 0, rfl, SB.new _ _ (paint_new C s (by omega)) _ _ (by simp), Row.nil_ _ _ _ _ _⟩, hme, by simp, by intro x hx; cases hx⟩, hb0.alloc (by simp) _⟩
theorem store_Sweep (sb : Nat) (L : Ly) (s : Nat) (C : Nat → Nat) (c : Nat) (w : World) : Calls Tryz.prog 86 #[.pointer (some ⟨sb, 0, none⟩)] w (NewW C c (fun w' C' b => SwAt w' C' c s sb b L none) w) := by
 go_enter Tryz.func86, Tryz.ntmps86
 go_wp2_with fail
 go_ret
 exact ⟨⟨w.heap.size, rfl, Nat.le_refl _, ⟨_, SB.new _ _ (paint_new C c (Nat.le_refl _)) _ _ rfl, rfl⟩⟩, (Below.refl _ _).alloc (Nat.le_refl _) _⟩
theorem store_Ensure (sb : Nat) (L : Ly) (s : Nat) (C : Nat → Nat) (c : Nat) (w : World) : Calls Tryz.prog 107 #[.pointer (some ⟨sb, 0, none⟩)] w (NewW C c (fun w' C' b => EnAt w' C' c s sb b L .new) w) := by
 go_enter Tryz.func107, Tryz.ntmps107
 go_wp2_with fail
 go_ret
 exact ⟨⟨w.heap.size, rfl, Nat.le_refl _, ⟨_, _, SB.new _ _ (paint_new C c (Nat.le_refl _)) _ _ rfl, rfl, fun _ => rfl⟩⟩, (Below.refl _ _).alloc (Nat.le_refl _) _⟩
theorem store_Prepare (sb : Nat) (key next : Int) (C : Nat → Nat) (c : Nat) (w : World) : Calls Tryz.prog 157 #[.pointer (some ⟨sb, 0, none⟩), .int .i64 key, .int .i64 next] w (NewW C c (fun w' C' b => PrAt w' C' c sb b (.new key next)) w) := by
 go_enter Tryz.func157, Tryz.ntmps157
 go_wp2_with fail
 go_ret
 exact ⟨⟨w.heap.size, rfl, Nat.le_refl _, SB.new _ _ (paint_new C c (Nat.le_refl _)) _ _ rfl, by simp [PrS.new]⟩, (Below.refl _ _).alloc (Nat.le_refl _) _⟩
theorem store_Full {w : World} {C : Nat → Nat} {s b : Nat} {L : Ly} {me : Int} {t : StS} (hL : L.Ok) (h : StAt w C s b L me t) : Calls Tryz.prog 87 #[.pointer (some ⟨b, 0, none⟩)] w fun e w' => e = .returned (.bool (full_ L t)) ∧ Below w.heap.size w w' := by
 obtain ⟨⟨A, n, cap, hn, sb, hrow⟩, -, -, -⟩ := h
 have hth := hL.th
 have HN := Lib.hid hn
 have e1 : wrap64 (4 * L.th) = 4 * L.th := IntWalk.wrap64_in _ (by omega)
 have hc := sb.blk.cells
 clear hn
 go_enter Tryz.func87, Tryz.ntmps87
 have fr := Fr.refl C (fun _ => False) [] w
 go_wp2_with fail
 revert sb; revert fr; refine drw ?_; intro fr sb
 obtain ⟨q1, qi⟩ := such1 sb
 refine wp_such1 sb 12 [] [0, 1, 2, 3, 4, 5, 6, 7, 8, 9, 10, 11] [12] (by kernel_rfl) (by kernel_rfl) ?_
 refine wpPh_nil ?_; try simp only [ox]
 repeat (go_big_quiet_step (fail))
 refine wpQuiet_nil ?_
 refine wpTail_late _ _ _ (by kernel_rfl) ?_; try simp only [ox]
 clear qi q1
 go_wp2_with fail
 refine NoPanic.normal ?_
 go_wp2_with fail
 go_ret
 exact ⟨by unfold full_; rw [HN.out]; rfl, (Below.refl _ _).drew⟩
theorem store_first {w : World} {C : Nat → Nat} {s b : Nat} {L : Ly} {me : Int} {t : StS} (hL : L.Ok) (h : StAt w C s b L me t) : Calls Tryz.prog 111 #[.pointer (some ⟨b, 0, none⟩)] w fun e w' => e = .returned (.int .i64 (firstOf L me)) ∧ Below w.heap.size w w' := by
 obtain ⟨⟨A, n, cap, hn, sb, hrow⟩, hme, -, -⟩ := h
 have hth := hL.th
 have hnd := hL.nd
 have d1 : decide (L.th < 1) = false := by simp; omega
 have hp : 0 ≤ me * L.nd ∧ me * L.nd ≤ 1400 := ⟨Int.mul_nonneg hme.1 (by omega), by
  have := Int.mul_le_mul hme.2 hnd.2 (by omega) (by omega); omega⟩
 have e1 : wrap64 (me * L.nd) = me * L.nd := IntWalk.wrap64_in _ (by omega)
 have hq : 0 ≤ (me * L.nd).tdiv L.th ∧ (me * L.nd).tdiv L.th ≤ 1400 := by
  rw [Int.tdiv_eq_ediv_of_nonneg hp.1]
  exact ⟨Int.ediv_nonneg hp.1 (by omega), Int.le_trans (Int.ediv_le_self _ hp.1) hp.2⟩
 have e2 : wrap64 ((me * L.nd).tdiv L.th) = (me * L.nd).tdiv L.th := IntWalk.wrap64_in _ (by omega)
 have e3 : wrap64 (1 + (me * L.nd).tdiv L.th) = 1 + (me * L.nd).tdiv L.th := IntWalk.wrap64_in _ (by omega)
 have hz : (L.th == 0) = false := beq_eq_false_iff_ne.2 (by omega)
 have hz2 : L.th ≠ 0 := by omega
 have hc := sb.blk.cells
 clear hn
 go_enter Tryz.func111, Tryz.ntmps111
 have fr := Fr.refl C (fun _ => False) [] w
 go_wp2_with fail
 revert sb; revert fr; refine drw ?_; intro fr sb
 obtain ⟨q1, qi⟩ := such1 sb
 refine wp_such1 sb 17 [] [0, 1, 2, 3, 4, 5, 6, 7, 8, 9, 10, 11, 12, 13, 14, 15, 16] [17] (by kernel_rfl) (by kernel_rfl) ?_
 refine wpPh_nil ?_; try simp only [ox]
 repeat (go_big_quiet_step (fail))
 refine wpQuiet_nil ?_
 refine wpTail_late _ _ _ (by kernel_rfl) ?_; try simp only [ox]
 clear qi q1
 go_wp2_with fail
 refine NoPanic.normal ?_
 go_wp2_with fail
 go_ret
 exact ⟨ret_int (by first | rfl | (unfold firstOf; omega)), (Below.refl _ _).drew⟩
structure UseW (C : Nat → Nat) (s b : Nat) (L : Ly) (me : Int) (t : StS) (w : World) (e : Ending) (w' : World) : Prop where
 ret : e = .returned (.int .i64 t.spare)
 own : StAt w' C s b L me { t with spare := 0 }
 fr : Fr C (K0 s) TSt w w'
theorem store_Use {w : World} {C : Nat → Nat} {s b : Nat} {L : Ly} {me : Int} {t : StS} (h : StAt w C s b L me t) : Calls Tryz.prog 105 #[.pointer (some ⟨b, 0, none⟩)] w (UseW C s b L me t w) := by
 obtain ⟨⟨A, n, cap, hn, sb, hrow⟩, hme, hsp, hsm⟩ := h
 have HN := Lib.hid hn
 have HSM := Lib.hid hsm
 clear hn hsm
 have hc := sb.blk.cells
 have hfz := sb.blk.frees
 have fr := (Fr.refl C (K0 s) TSt w).set_ sb (K0_own s) (by decide) 3 (.int .i64 0)
 have hr2 := hrow.set_ sb (by decide) 3 (.int .i64 0)
 have sb2 := sb.set_ 3 (.int .i64 0)
 go_enter Tryz.func105, Tryz.ntmps105
 go_wp2_with fail
 go_ret
 exact ⟨rfl, ⟨⟨A, n, cap, HN.out, sb2, hr2⟩, hme, by simp, HSM.out⟩, fr⟩
structure RetireW (C : Nat → Nat) (s b : Nat) (L : Ly) (me : Int) (t : StS) (w : World) (e : Ending) (w' : World) : Prop where
 ret : e = .returned (.tuple #[])
 own : ∃ C', Agr w.heap.size C C' ∧ StAt w' C' s b L me t
 fr : Fr C (K0 s) TSt w w'
theorem store_Retire {w : World} {C : Nat → Nat} {s b : Nat} {L : Ly} {me : Int} {t : StS} (h : StAt w C s b L me t) (l : List Int) (A2 : Option Addr) (n2 c2 B : Nat) (hs : Sl w B 1 A2 n2 (ivs l)) (hn2 : l.length = n2) (hle : t.ret.length ≤ 100000) (hle2 : n2 ≤ 100000) (hsm2 : Small l) :
  Calls Tryz.prog 83 #[.pointer (some ⟨b, 0, none⟩), .slice A2 n2 c2] w (RetireW C s b L me (t.retire l) w) := by
 obtain ⟨i0, hi, hz0, hz1, hz2⟩ := info_parts info_int
 obtain ⟨⟨A, n, cap, hn, sb, hrow⟩, hme, hsp, hsm⟩ := h
 rw [hn] at hle
 have HN := Lib.hid (show (t.retire l).ret.length = n + n2 by simp [StS.retire, hn, hn2])
 have HSM := Lib.hid (show Small (t.retire l).ret from fun x hx => (List.mem_append.1 hx).elim (hsm x) (hsm2 x))
 have HIV := Lib.hid (show ivs (t.retire l).ret = ivs t.ret ++ ivs l by simp [StS.retire, ivs])
 clear hn hsm hsm2 hn2
 have hne := own_ne hrow.own sb.blk (by decide)
 have hc := sb.blk.cells
 have fr0 := Fr.refl C (K0 s) TSt w
 go_enter Tryz.func83, Tryz.ntmps83
 go_wp2_with (at_builtin; refine wpList_append_sl _ rfl _ _ _ rfl 0 3 i0 _ 1 8 Tryz.underlying89 hi hz0 hz1 hz2 rfl (by omega) (.slice A n cap) n (ivs t.ret) rfl hrow.own B A2 n2 c2 (ivs l) rfl hs (ivs_one l) (by unfold maxLen; omega) (by omega) (by omega) ?_; intro v1 w1 hown1 hg1 hat1; have sb1 : SB w1 C s b 137 _ := SB.mk (sb.blk.grown hg1 (fun e => hne e)) sb.col; have fr1 := fr0.app hrow hg1 (K0_own s) (by decide); have hr1 := hrow.app hown1 hat1; have hc1 := sb1.blk.cells; have hfz1 := sb1.blk.frees; obtain ⟨A3, c3, rfl, hc3, -, -⟩ := own_form hown1)
 have ag : Agr w.heap.size C (paint C w.heap.size s) := Agr.paint C _ s
 have sb2 := sb1.set_ 4 (.slice A3 (n + n2) c3)
 have hr2 := hr1.far (p := ⟨b, 4, none⟩) (own_ne hown1 sb1.blk (by decide)) (.slice A3 (n + n2) c3)
 have fr2 := fr1.set_ sb1 (K0_own s) (by decide) 4 (.slice A3 (n + n2) c3)
 go_end0
 refine ⟨rfl, ⟨paint C w.heap.size s, ag, ⟨A3, n + n2, c3, HN.out, SB.mk sb2.blk ?_, by rw [HIV.out]; exact hr2⟩, hme, hsp, HSM.out⟩, fr2⟩
 exact (ag b sb.lt).trans sb.col
end Go.Proofs.YtbcnnhlpilmmbaaGreat
