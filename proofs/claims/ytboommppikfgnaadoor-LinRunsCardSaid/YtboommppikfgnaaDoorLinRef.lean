/- Contracts of the document's Place, Ops, Whole (layer 9).
   Conditions: the numbers are those of calls. -/
import Derived.Test.YtboommppikfgnaaDoorLinPlain
import Derived.Test.YtboommppikfgnaaDoorHRefW
import Derived.Test.YtboommppikfgnaaDoorSRef3
import Derived.Test.YtboommppikfgnaaDoorLinFun2
namespace Go.Proofs.YtboommppikfgnaaDoor
open Go Go.RowKit

def rAt (cs : List RC) (i : Int) : Option RC := if 0 ≤ i then cs[i.toNat]? else none
def RC.op (c : RC) : Opn := ⟨c.kind, c.key⟩
def RC.mustR (c : RC) : Bool := decide (0 ≤ c.ended) && decide (c.code = 0)
def opsR (cs : List RC) (ord : List Int) : List Opn := ord.filterMap fun i => (rAt cs i).map RC.op
def ValidR (cs : List RC) (ord : List Int) : Prop := ∀ i ∈ ord, 0 ≤ i ∧ i < cs.length
theorem rAt_valid {cs : List RC} {i : Int} (h : 0 ≤ i ∧ i < cs.length) : ∃ c, rAt cs i = some c ∧ cs[i.toNat]? = some c := by
  have hl : i.toNat < cs.length := by omega
  refine ⟨cs[i.toNat], ?_, List.getElem?_eq_getElem hl⟩
  unfold rAt; rw [if_pos h.1]; exact List.getElem?_eq_getElem hl
theorem rcaSz : (Tryd.prog.info? 68).map (·.size) = some 8 := by kernel_rfl
theorem info_Opn : (Tryd.prog.info? 43).map (fun i => (i.zero, i.size, i.bytes)) = some (some (.agg #[.int .i64 0, .int .i64 0]), 2, 16) := by kernel_rfl
theorem idx_int {P : Program} {t e : TypeId} {w : World} {B sz n c : Nat} {A : Option Addr} {xs : List Value} (h : Sl w B sz A n xs) (ht : P.underlying t = some (.slice e)) (he : (P.info? e).map (·.size) = some sz) {i : Int} (hi : 0 ≤ i ∧ i < n) :
    ∀ W : World, (Instr.indexAt t (.slice A n c) (.int .i64 i)).run P W = .ok (.pointer (some ⟨ablk A, aoff A + i.toNat * sz, none⟩)) W := by
  intro W
  have h1 := h.idx (P := P) (c := c) ht he (k := i.toNat) (by omega) W
  rw [show ((i.toNat : Nat) : Int) = i by omega] at h1
  exact h1

section
variable {w : World} {B no co : Nat} {Ao : Option Addr} {ord : List Int}
set_option maxRecDepth 100000 in
set_option maxHeartbeats 1600000 in
theorem ref_place (x : Int) (hs : Sl w B 1 Ao no (ints ord)) (_ : B ≤ w.heap.size) (hl : ord.length = no) (hn : no ≤ 1000) :
    Calls Tryd.prog 49 #[.slice Ao no co, .int .i64 x] w fun e w' => (∃ p : Int, e = .returned (.int .i64 p) ∧ (p < 0 ↔ x ∉ ord)) ∧ w = w' := by
  have HL := Lib.hid hl
  clear hl
  go_enter Tryd.func49, Tryd.ntmps49
  go_wp2_with fail
  go_loopw [5] (fun i wr => ∃ k : Nat, k ≤ no ∧ i = .int .i64 k ∧ x ∉ ord.take k ∧ w = wr) (fun i _ => no - (intOf i).toNat)
  case atStart => exact ⟨0, by omega, rfl, by simp, rfl⟩
  case round =>
    obtain ⟨k, hk, rfl, hnot, rfl⟩ := hrel
    by_cases hlt : k < no
    · obtain ⟨y, hy⟩ : ∃ y, ord[k]? = some y := ⟨_, List.getElem?_eq_getElem (by rw [HL.out]; exact hlt)⟩
      have hidx := hs.idx (P := Tryd.prog) (c := co) Tryd.underlying29 intSz hlt
      have g1 := RowI.at_ hs hlt hy
      simp only [Nat.mul_one] at g1 hidx
      have htk := take_one ord k y hy
      have hmem := List.mem_of_getElem? hy
      by_cases hxy : y = x
      · have hb : (y == x) = true := by simpa using hxy
        have hin : x ∈ ord := hxy ▸ hmem
        have HI := Lib.hid hin
        clear hy htk hmem hnot hxy
        go_wp2_with fail
        go_ret
        exact ⟨⟨(k : Int), rfl, ⟨fun h => absurd h (by omega), fun h => absurd HI.out h⟩⟩, rfl⟩
      · have hb : (y == x) = false := beq_eq_false_iff_ne.2 hxy
        have hnot' : x ∉ ord.take (k + 1) := by
          rw [htk]
          intro h
          rcases List.mem_append.1 h with h | h
          · exact hnot h
          · exact hxy (by simpa using h : x = y).symm
        have HN := Lib.hid hnot'
        clear hy htk hmem hnot hxy hnot'
        go_wp2_with fail
        go_roundw
        case rel => exact ⟨k + 1, by omega, by go_num, HN.out, trivial⟩
        case measure => simp [intOf]; omega
    · obtain rfl : k = no := by omega
      have ht : ord.take k = ord := List.take_of_length_le (by rw [HL.out]; omega)
      rw [ht] at hnot
      have HN := Lib.hid hnot
      clear hnot ht
      go_wp2_with fail
      go_ret
      exact ⟨⟨-1, rfl, ⟨fun _ => HN.out, fun _ => by omega⟩⟩, rfl⟩
end

section
variable {w : World} {B n cc no co : Nat} {A Ao : Option Addr} {cs : List RC} {ord : List Int}
theorem opsR_snoc (k : Nat) (i : Int) (c : RC) (h : ord[k]? = some i) (hc : rAt cs i = some c) : opsR cs (ord.take (k + 1)) = opsR cs (ord.take k) ++ [c.op] := by
  rw [take_one ord k i h]
  unfold opsR
  rw [List.filterMap_append]
  simp [hc]
theorem opsR_len (ord : List Int) : (opsR cs ord).length ≤ ord.length := List.length_filterMap_le _ _

set_option maxRecDepth 100000 in
set_option maxHeartbeats 1600000 in
theorem ref_ops (hs : Sl w B 8 A n (cs.flatMap RC.cells)) (ho : Sl w B 1 Ao no (ints ord)) (hB : B ≤ w.heap.size) (hn : cs.length = n) (hl : ord.length = no) (hno : no ≤ 1000) (hv : ValidR cs ord) :
    Calls Tryd.prog 24 #[.slice A n cc, .slice Ao no co] w fun e w' => (∃ v, e = .returned v ∧ w'.ownsRow w.heap.size 43 2 v (opsR cs ord).length ((opsR cs ord).flatMap Opn.cells)) ∧ Below w.heap.size w w' := by
  obtain ⟨iP, hiP, zP, sP, bP⟩ := info_parts info_Opn
  have HL := Lib.hid hl
  have HN := Lib.hid hn
  have HV := Lib.hid hv
  clear hl hn hv
  go_enter Tryd.func24, Tryd.ntmps24
  go_wp2_with fail
  go_loopw [5, 6] (fun out i wr => ∃ (k : Nat) (did : List Opn), k ≤ no ∧ i = .int .i64 k ∧ did = opsR cs (ord.take k) ∧ wr.ownsRow w.heap.size 43 2 out did.length (did.flatMap Opn.cells) ∧ Below w.heap.size w wr) (fun _ i _ => no - (intOf i).toNat)
  case atStart => exact ⟨0, [], by omega, rfl, rfl, World.ownsRow_nil _ _ _ _, Below.refl _ _⟩
  case round =>
    obtain ⟨k, did, hk, rfl, hdid, hown, hbr⟩ := hrel
    have hdl : did.length ≤ k := by
      have := opsR_len (cs := cs) (ord.take k)
      rw [← hdid, List.length_take] at this; omega
    have hbs := hbr.size
    by_cases hlt : k < no
    · obtain ⟨y, hy⟩ : ∃ y, ord[k]? = some y := ⟨_, List.getElem?_eq_getElem (by rw [HL.out]; exact hlt)⟩
      have hyv := HV.out y (List.mem_of_getElem? hy)
      obtain ⟨c, hc1, hc2⟩ := rAt_valid hyv
      have hsn := opsR_snoc (cs := cs) k y c hy hc1
      rw [← hdid] at hsn
      have ho1 := ho.step hB hbr
      have hs1 := hs.step hB hbr
      have hidx := ho1.idx (P := Tryd.prog) (c := co) Tryd.underlying29 intSz hlt
      have g1 := RowI.at_ ho1 hlt hy
      simp only [Nat.mul_one] at g1 hidx
      have hyn : 0 ≤ y ∧ y < (n : Int) := by rw [← HN.out]; exact hyv
      have hidy := idx_int (P := Tryd.prog) (c := cc) hs1 Tryd.underlying27 rcaSz hyn
      obtain ⟨-, -, -, f3, f4, -, -, -⟩ := rc_cells hs1 (show y.toNat < n by omega) hc2
      have HSN := Lib.hid hsn
      have hown4 := hown.alloc (.cells #[.int .i64 c.kind, .int .i64 c.key] 43)
      obtain ⟨yt, hyt⟩ : ∃ yt, y.toNat = yt := ⟨_, rfl⟩
      rw [hyt] at hidy f3 f4
      clear hsn hy hdid hc1 hc2 hyt hyv
      go_wp2_with (at_builtin; refine wpList_append_lies _ rfl _ _ _ rfl w.heap.size 43 iP _ 2 16 Tryd.underlying41 hiP zP sP bP rfl (by omega) _ did.length (did.flatMap Opn.cells) rfl hown4 ⟨wr.heap.size, 0, none⟩ 1 1 (Opn.cells ⟨c.kind, c.key⟩) rfl rfl (World.news_of_block (heap_alloc_new wr _)) (Opn.cells_one _) (by omega) (by unfold maxLen; omega) (by omega) (by simp; omega) (wr.heap.size + 1) (by simp) ?_; intro g cap w9 hown9 hgrow hat hlt9)
      have hgrow' : (wr.alloc (.cells #[.int .i64 c.kind, .int .i64 c.key] 43)).grownBy w9 (Value.ownBlock u5) := hgrow
      go_roundw
      case rel => exact ⟨k + 1, did ++ [c.op], by omega, by go_num, HSN.out.symm, by simpa [RC.op] using hown9, (hbr.alloc (by omega) _).grown hgrow' (by simp; omega) (fun g0 h0 => (own_at hown g0 h0).1)⟩
      case measure => simp [intOf]; omega
    · obtain rfl : k = no := by omega
      have ht : ord.take k = ord := List.take_of_length_le (by rw [HL.out]; omega)
      rw [ht] at hdid
      have HD := Lib.hid hdid
      clear hdid ht
      go_wp2_with fail
      go_ret
      exact ⟨⟨_, rfl, by rw [← HD.out]; exact hown⟩, hbr⟩

/-- does an order have all that must stand in it -/
def wholeTo (cs : List RC) (ord : List Int) (k : Nat) : Bool := (List.range k).all fun i => match cs[i]? with
  | some c => !(c.mustR && !ord.contains (i : Int))
  | none => true
theorem wholeTo_succ (cs : List RC) (ord : List Int) (k : Nat) (c : RC) (h : cs[k]? = some c) : wholeTo cs ord (k + 1) = (wholeTo cs ord k && !(c.mustR && !ord.contains (k : Int))) := by
  unfold wholeTo
  rw [List.range_succ, List.all_append]
  simp [h]
theorem wholeTo_false (cs : List RC) (ord : List Int) (k : Nat) (h : wholeTo cs ord k = false) : ∀ m, wholeTo cs ord (k + m) = false
  | 0 => h
  | m + 1 => by
    have ih := wholeTo_false cs ord k h m
    unfold wholeTo at ih ⊢
    rw [← Nat.add_assoc, List.range_succ, List.all_append, ih]; rfl

set_option maxRecDepth 100000 in
set_option maxHeartbeats 1600000 in
theorem ref_whole (hs : Sl w B 8 A n (cs.flatMap RC.cells)) (ho : Sl w B 1 Ao no (ints ord)) (hB : B ≤ w.heap.size) (hn : cs.length = n) (hn' : n ≤ 1000) (hl : ord.length = no) (hno : no ≤ 1000) :
    Calls Tryd.prog 29 #[.slice A n cc, .slice Ao no co] w fun e w' => e = .returned (.bool (wholeTo cs ord n)) ∧ w = w' := by
  have HL := Lib.hid hl
  have HN := Lib.hid hn
  clear hl hn
  go_enter Tryd.func29, Tryd.ntmps29
  go_wp2_with fail
  go_loopw [5] (fun i wr => ∃ k : Nat, k ≤ n ∧ i = .int .i64 k ∧ wholeTo cs ord k = true ∧ w = wr) (fun i _ => n - (intOf i).toNat)
  case atStart => exact ⟨0, by omega, rfl, rfl, rfl⟩
  case round =>
    obtain ⟨k, hk, rfl, hall, rfl⟩ := hrel
    by_cases hlt : k < n
    · obtain ⟨c, hcc⟩ : ∃ c, cs[k]? = some c := ⟨_, List.getElem?_eq_getElem (by rw [HN.out]; exact hlt)⟩
      have hidx := hs.idx (P := Tryd.prog) (c := cc) Tryd.underlying27 rcaSz hlt
      obtain ⟨-, -, f2, -, -, f5, -, -⟩ := rc_cells hs hlt hcc
      have hsn := wholeTo_succ cs ord k c hcc
      rw [hall] at hsn
      have hpl := ref_place (co := co) (k : Int) ho hB HL.out hno
      have hmr : c.mustR = (decide (0 ≤ c.ended) && decide (c.code = 0)) := rfl
      have HSN := Lib.hid hsn
      have HMR := Lib.hid hmr
      have HPL := Lib.hid hpl
      clear hsn hmr hpl hcc hall
      by_cases he : 0 ≤ c.ended
      · by_cases hz : c.code = 0
        · have hb : (c.code == 0) = true := by simpa using hz
          have hmu : c.mustR = true := by rw [HMR.out, decide_eq_true he, decide_eq_true hz]; rfl
          have HMU := Lib.hid hmu
          clear hmu hz
          go_wp2_with fail
          refine HPL.out.mono ?_
          rintro e w1 ⟨⟨p, rfl, hp⟩, rfl⟩
          by_cases hneg : p < 0
          · have hni := hp.1 hneg
            have hw : wholeTo cs ord (k + 1) = false := by
              rw [HSN.out, HMU.out]
              have : ord.contains (k : Int) = false := by simpa using hni
              rw [this]; rfl
            have hwn : wholeTo cs ord n = false := by
              have := wholeTo_false cs ord (k + 1) hw (n - (k + 1))
              rwa [show k + 1 + (n - (k + 1)) = n by omega] at this
            have HW := Lib.hid hwn
            clear hp hni hw hwn
            go_wp2_with fail
            go_ret
            exact ⟨by rw [HW.out]; rfl, rfl⟩
          · have hin : (k : Int) ∈ ord := by
              rcases Decidable.em ((k : Int) ∈ ord) with h | h
              · exact h
              · exact absurd (hp.2 h) hneg
            have hw : wholeTo cs ord (k + 1) = true := by
              rw [HSN.out]
              have : ord.contains (k : Int) = true := by simpa using hin
              rw [this]; simp
            have HW := Lib.hid hw
            clear hp hin hw
            go_wp2_with fail
            exact ⟨⟨k + 1, by omega, by go_num, HW.out, trivial⟩, by simp [intOf]; omega⟩
        · have hb : (c.code == 0) = false := beq_eq_false_iff_ne.2 hz
          have hw : wholeTo cs ord (k + 1) = true := by
            rw [HSN.out, HMR.out, decide_eq_false hz]; simp
          have HW := Lib.hid hw
          clear hw hz
          go_wp2_with fail
          exact ⟨⟨k + 1, by omega, by go_num, HW.out, trivial⟩, by simp [intOf]; omega⟩
      · have hw : wholeTo cs ord (k + 1) = true := by
          rw [HSN.out, HMR.out, decide_eq_false he]; simp
        have HW := Lib.hid hw
        clear hw
        go_wp2_with fail
        exact ⟨⟨k + 1, by omega, by go_num, HW.out, trivial⟩, by simp [intOf]; omega⟩
    · obtain rfl : k = n := by omega
      have HW := Lib.hid hall
      clear hall
      go_wp2_with fail
      go_ret
      exact ⟨by rw [HW.out]; rfl, rfl⟩
end
end Go.Proofs.YtboommppikfgnaaDoor
