/- Contract of lin's search.
   Conditions: at most 24 calls, each one's number its place; the table of powers of ten lies as laid. -/
import Derived.Test.YtboommppikfgnaaDoorLinVain
import Derived.ArgAppend
namespace Go.Proofs.YtboommppikfgnaaDoor
open Go Go.RowKit

theorem strKeyed : Go.Maps.Keyed Tryd.prog 9 := Go.Maps.string_keyed Tryd.underlying9
theorem zeroInt (w : World) : (zeroValue 3).run Tryd.prog w = .ok (.int .i64 0) w := by kernel_rfl
theorem info_i64 : (Tryd.prog.info? 3).map (fun i => (i.zero, i.size, i.bytes)) = some (some (.int .i64 0), 1, 8) := by kernel_rfl

/-- append to a slice without room -/
theorem wp_append_full {o : Oper} {a : Act} {K : Act → World → Prop} {Q : Exit → Act → World → Prop} (w : World) (s x : Operand)
    (ho : o.op = .call { callee := .builtin .append, args := #[s, x], argTypes := #[29, 29] }) (A : Option Addr) (n B : Nat) (ord : List Int) (y : Int) (ad : Addr)
    (hs : a.eval s = .slice A n n) (hr : Sl w B 1 A n (ints ord)) (hx : a.eval x = .slice (some ad) 1 1) (hy : w.cell? ad = some (.int .i64 y)) (had : ad.add 0 = ad) (hn : n ≤ 1000)
    (h : ∀ g cap w', w'.ownsRow w.heap.size 3 1 (.slice (some ⟨g, 0, none⟩) (n + 1) cap) (n + 1) (ints (ord ++ [y])) → n + 1 ≤ cap → w.grownBy w' none → K (a.put o.dst (.slice (some ⟨g, 0, none⟩) (n + 1) cap)) w') : o.wp Tryd.prog a w K Q := by
  obtain ⟨i0, hi, hz, hs1, hb1⟩ := info_parts info_i64
  have hnew : ∀ j u, ([Value.int .i64 y] : List Value)[j]? = some u → w.cell? (ad.add j) = some u := by
    intro j u hj
    cases j with
    | zero => rw [had, hy]; simpa using hj
    | succ j => simp at hj
  have hone : ∀ u ∈ ([Value.int .i64 y] : List Value), u.oneCell' = true := by simp [Value.oneCell']
  have key : ∃ v' w', (Builtin.append_ #[29, 29] o.type #[.slice A n n, .slice (some ad) 1 1]).run Tryd.prog w = .ok v' w' ∧ w'.ownsRow w.heap.size 3 1 v' (n + 1) (ints ord ++ [.int .i64 y]) ∧ w.grownBy w' none := by
    cases A with
    | none =>
      have hn0 : n = 0 := by
        rcases Nat.eq_zero_or_pos n with h0 | h0
        · exact h0
        · have := hr.adr h0; cases this
      subst hn0
      have he : ints ord = [] := List.eq_nil_of_length_eq_zero (by simpa using hr.len)
      rw [he]
      obtain ⟨g, cap, w', h1, h2, h3, -, -⟩ := run_append_lies (P := Tryd.prog) w 29 o.type w.heap.size 3 i0 _ 1 8 Tryd.underlying29 hi hz hs1 hb1 rfl (by omega) (.slice none 0 0) 0 [] (World.ownsRow_nil _ _ _ _) ad 1 1 [.int .i64 y] rfl hnew hone (by omega) (by unfold maxLen; omega) (by omega) (Nat.le_refl _) _ rfl
      exact ⟨_, w', h1, h2, h3⟩
    | some b =>
      have hold : ∀ j u, (ints ord)[j]? = some u → w.cell? (b.add j) = some u := by
        intro j u hu
        have hj : j < n * 1 := by rw [← hr.len]; exact (List.getElem?_eq_some_iff.1 hu).1
        have h2 : some b = some ⟨ablk (some b), aoff (some b), none⟩ := hr.adr (by omega : 0 < n)
        have h2 : b = ⟨ablk (some b), aoff (some b), none⟩ := Option.some.inj h2
        have h3 := hr.cell j hj
        rw [hu] at h3
        rw [h2]
        unfold Addr.add
        split
        · rename_i hj0; subst hj0; simpa [ablk, aoff] using h3
        · simpa [ablk, aoff] using h3
      exact run_append_arg_grows (P := Tryd.prog) w 29 o.type 3 i0 _ 1 8 Tryd.underlying29 hi hz hs1 hb1 rfl (by omega) b n n (ints ord) hr.len hold ad 1 1 [.int .i64 y] rfl hnew (by omega) (by unfold maxLen; omega) (by omega)
  obtain ⟨v', w', hrun, h2, h3⟩ := key
  obtain ⟨g, cap, rfl, -, -⟩ := h2.form (by omega)
  have h2' : w'.ownsRow w.heap.size 3 1 (.slice (some ⟨g, 0, none⟩) (n + 1) cap) (n + 1) (ints (ord ++ [y])) := by rw [ints_app]; exact h2
  unfold Oper.wp execOp
  simp only [ho, resolve, invoke, builtin, Sem.run_bind, Sem.run_pure, Result.andThen_ok, List.map_toArray, List.map_cons, List.map_nil, hs, hx, hrun]
  have hcap : n + 1 ≤ cap := by
    rcases h2'.2 with ⟨h0, -⟩ | ⟨g1, c1, cur, hv, -, -, hnc, -⟩
    · cases h0
    · injection hv with _ _ hv; omega
  exact h g cap w' h2' hcap h3

/-- the book: calls, a shape, what was found to lead nowhere -/
structure BookAt (w : World) (bb mb : Nat) (sh : Int) (A : Option Addr) (n cc B : Nat) (cs : List HC) (m : Nat) : Prop where
  blk : Blk w bb 76 #[.int .i64 sh, .slice A n cc, .map (some mb)]
  row : Sl w B 9 A n (cs.flatMap HC.cells)
  lts : B ≤ mb ∧ mb < bb
  map : ∃ D : DataW Unit, w.ownsMap Tryd.prog 9 (plainElem Tryd.prog 3) mb m D ∧ VainOk sh cs m D
section
variable {w w' : World} {bb mb n cc B m : Nat} {sh : Int} {A : Option Addr} {cs : List HC}
theorem ownsMap_below {D : DataW Unit} (h : w.ownsMap Tryd.prog 9 (plainElem Tryd.prog 3) mb m D) (hb : Below w.heap.size w w') : w'.ownsMap Tryd.prog 9 (plainElem Tryd.prog 3) mb m D := by
  have hlt := h.lt
  obtain ⟨es, clock, h1, h2⟩ := h
  exact ⟨es, clock, (hb.block mb hlt).trans h1, h2⟩
theorem BookAt.step (h : BookAt w bb mb sh A n cc B cs m) (hb : Below w.heap.size w w') : BookAt w' bb mb sh A n cc B cs m := by
  obtain ⟨D, h1, h2⟩ := h.map
  have := h.blk.lt
  have := h.lts
  exact ⟨h.blk.step hb, h.row.step (by omega) hb, h.lts, D, ownsMap_below h1 hb, h2⟩
theorem BookAt.mono {m' : Nat} (h : BookAt w bb mb sh A n cc B cs m) (hm : m ≤ m') : BookAt w bb mb sh A n cc B cs m' := by
  obtain ⟨D, h1, h2⟩ := h.map
  exact ⟨h.blk, h.row, h.lts, D, h1.mono hm, h2.mono hm⟩
end

theorem sl_kz {w w' : World} {B sz n mb : Nat} {A : Option Addr} {xs : List Value} {es : Array MapEntry} {clock : Nat} (h : Sl w B sz A n xs) (k : Kz (fun k => k ≠ mb) w w') (hm : w.heap[mb]? = some (.map es clock)) : Sl w' B sz A n xs := by
  refine ⟨h.len, h.adr, h.blt, fun j hj => ?_⟩
  have h1 := h.cell j hj
  have hne : ablk A ≠ mb := fun e => by
    rw [e] at h1
    have h2 : w.cell? ⟨mb, aoff A + j, none⟩ = none := by simp [World.cell?, hm]
    rw [h2] at h1
    have : j < xs.length := by rw [h.len]; exact hj
    rw [List.getElem?_eq_getElem this] at h1
    cases h1
  have hlt : ablk A < w.heap.size := by
    have : j < xs.length := by rw [h.len]; exact hj
    rw [List.getElem?_eq_getElem this] at h1
    exact block_lt_of_cell h1
  rw [← h1]
  have hb : Below (ablk A + 1) (w.alloc (.cells #[] 0)) (w.alloc (.cells #[] 0)) := Below.refl _ _
  have := k.block (ablk A) hne hlt
  simp only [World.cell?, this]

/-- what the search tells -/
def Told (w' : World) (no : Nat) (ord : List Int) (e : Ending) : Option (List Int) → Prop
  | some r => ∃ Ar cr, e = .returned (.tuple #[.slice Ar (no + r.length) cr, .bool true]) ∧ Sl w' w'.heap.size 1 Ar (no + r.length) (ints (ord ++ r)) ∧ no + r.length ≤ cr
  | none => e = .returned (.tuple #[.slice none 0 0, .bool false])

/-- the search's one step at a call -/
def goL (sh : Int) (cs : List HC) (P : Nat) (items : List Int) (c : HC) : Option (List Int) :=
  if nextL sh cs P c && stepL sh items c then (findL sh cs (place P c) (spDo sh items c.op)).map (c.id :: ·) else none
theorem findL_go (sh : Int) (cs : List HC) (hid : Numbered cs) (P : Nat) (items : List Int) : findL sh cs P items = if wholeL cs P then some [] else firstOf (goL sh cs P items) cs := findL_eq sh cs hid P items
def cand (sh : Int) (cs : List HC) (P k : Nat) : Nat := ((cs.take k).filter (nextL sh cs P)).length
theorem cand_snoc (sh : Int) (cs : List HC) (P k : Nat) (c : HC) (h : cs[k]? = some c) : cand sh cs P (k + 1) = cand sh cs P k + if nextL sh cs P c then 1 else 0 := by
  unfold cand
  rw [take_one cs k c h, List.filter_append, List.length_append, List.filter_cons, List.filter_nil]
  congr 1
  split <;> rfl
theorem cand_le {sh : Int} {cs : List HC} {β : Nat} (h : Branch sh cs β) (P k : Nat) : cand sh cs P k ≤ β := by
  refine Nat.le_trans ?_ (h P)
  unfold cand
  exact (List.Sublist.filter _ (List.take_sublist k cs)).length_le
theorem place_lt {P : Nat} {c : HC} (hP : P < 18446744073709551616) (hk : c.id.toNat < 64) : place P c < 18446744073709551616 := by
  unfold place
  rw [Nat.shiftLeft_eq, Nat.one_mul]
  exact Nat.or_lt_two_pow (n := 64) hP (Nat.pow_lt_pow_right (by omega) hk)

theorem cand_zero {sh : Int} {cs : List HC} {n P : Nat} (hn : cs.length = n) (hid : Numbered cs) (h : left n P = 0) (k : Nat) : cand sh cs P k = 0 := by
  unfold cand
  rw [List.length_eq_zero_iff, List.filter_eq_nil_iff]
  intro c hc
  obtain ⟨i, hi, he⟩ := List.mem_iff_getElem.1 (List.mem_of_mem_take hc)
  have hidc := hid i c (by rw [List.getElem?_eq_getElem hi, he])
  have := left_zero h (show i < n by omega)
  unfold nextL isIn
  rw [hidc, Int.toNat_natCast, this]
  simp
theorem run_upto3 {P : Program} {t e : TypeId} {sz : Nat} (ht : P.underlying t = some (.slice e)) (he : (P.info? e).map (·.size) = some sz) (A : Option Addr) (m c : Nat) (hk : m ≤ c) (W : World) :
    (Instr.sliceAt t (.slice A m c) none (some (.int .i64 (m : Int))) (some (.int .i64 (m : Int)))).run P W = .ok (.slice A m m) W := by
  obtain ⟨inf, hinf, hs⟩ := Option.map_eq_some_iff.1 he
  simp [Instr.sliceAt, Instr.slice, run_underlying ht, Instr.sliceBounds, Instr.sliceBound, asIntOf, sizeOf, typeInfo, hinf, hk]
  intro _
  cases A <;> simp [Addr.add]

set_option maxRecDepth 100000 in
set_option maxHeartbeats 8000000 in
theorem book_search (sh : Int) (cs : List HC) (A : Option Addr) (n cc B bb mb β N0 : Nat) (W0 : World) (_ : 1 ≤ sh ∧ sh ≤ 4) (hn : cs.length = n) (hn' : n ≤ 24) (hid : Numbered cs) (hβ : Branch sh cs β)
    (htab : ∀ w', Below N0 W0 w' → Lib.TabIs Tryd.prog w' "internal/strconv.uint64pow10" .u64 Lib.pow10Tab) (hN0 : N0 ≤ mb) :
    ∀ (u P : Nat) (did : List Opn) (ord : List Int) (no co m b : Nat) (Ao : Option Addr) (Z : Nat → Prop) (w : World), left n P = u → P < 18446744073709551616 → allMay sh did → did.length + u ≤ 100 → ord.length = no → no ≤ co → no + u ≤ 100 →
      BookAt w bb mb sh A n cc B cs m → Below N0 W0 w → SAt w Z b sh (itemsOf sh did) → Z mb → Sl w w.heap.size 1 Ao no (ints ord) → m + cost β u ≤ maxLen →
      Calls Tryd.prog 28 #[.pointer (some ⟨bb, 0, none⟩), .int .u64 P, .pointer (some ⟨b, 0, none⟩), .slice Ao no co] w fun e w' =>
        Told w' no ord e (findL sh cs P (itemsOf sh did)) ∧ BookAt w' bb mb sh A n cc B cs (m + cost β u) ∧ Kz (fun k => k ≠ mb) w w' := by
  intro u
  induction u using Nat.strongRecOn with
  | _ u ih =>
  intro P did ord no co m b Ao Z w hu hP hdid hdl hol hoc hou hbk hb0 hs hZ hso hm
  have hNw : N0 ≤ w.heap.size := by have := hbk.blk.lt; have := hbk.lts; omega
  have hil := itemsOf_len sh did
  have hir := items_rng sh did hdid
  have hrise := items_rise sh did hdid
  have HN := Lib.hid hn
  have hfind := findL_go sh cs hid P (itemsOf sh did)
  have hcl : n ≤ 64 := by omega
  obtain ⟨wh, hwh⟩ : ∃ wh, wholeL cs P = wh := ⟨_, rfl⟩
  have hwhole := book_whole bb sh (.map (some mb)) A n cc B P cs w hbk.blk hbk.row (by have := hbk.blk.lt; have := hbk.lts; omega) hn hcl hid hP
  rw [hwh] at hfind hwhole
  have HF := Lib.hid hfind
  clear hfind hwh
  go_enter Tryd.func28, Tryd.ntmps28
  go_wp2_with fail
  refine hwhole.mono ?_
  rintro e w1 ⟨rfl, hb1⟩
  have hbk1 := hbk.step hb1
  have hs1 := hs.step' hb1
  have hso1 := (hso.step (Nat.le_refl _) hb1).more hb1.size
  have hb01 := hb0.trans (hb1.mono hNw)
  clear hwhole
  cases wh
  · have hkey := lin_key P hP w1 hs1 (by omega) (fun x hx => ⟨(hir x hx).1, by have := (hir x hx).2; omega⟩) (fun w' hb' => htab w' (hb01.trans (hb'.mono (by have := hb1.size; omega))))
    go_wp2_with fail
    refine hkey.mono ?_
    rintro e w2 ⟨rfl, hb2⟩
    have hbk2 := hbk1.step hb2
    have hs2 := hs1.step' hb2
    have hso2 := (hso1.step (Nat.le_refl _) hb2).more hb2.size
    have hb02 := hb01.trans (hb2.mono (by have := hb1.size; omega))
    have hb12 := hb1.trans (hb2.mono hb1.size)
    have hkl := keyL_len P hP (itemsOf sh did) (fun x hx => ⟨(hir x hx).1, by have := (hir x hx).2; omega⟩)
    have hkey2 : keyOf Tryd.prog 9 (.string ⟨(keyL P (itemsOf sh did)).toArray⟩) = some (.string (keyL P (itemsOf sh did))) := by
      have := Go.WideMaps.keyOf_string_mk (P := Tryd.prog) Tryd.underlying9 (s := ⟨(keyL P (itemsOf sh did)).toArray⟩) (by show (keyL P (itemsOf sh did)).toArray.size ≤ maxLen; rw [List.size_toArray]; unfold maxLen; omega)
      simpa using this
    obtain ⟨D, hmap, hvain⟩ := hbk2.map
    have hcb := hbk2.blk.cells
    clear hkey
    go_wp2_with (at_lookup; refine wpList_lookup_own_int _ rfl _ _ 74 rfl 9 3 .i64 strKeyed Tryd.underlying74 Tryd.underlying3 (zeroInt _) mb m _ rfl hmap _ _ rfl hkey2 ?_; intro c hat hwc)
    · have hc0 : 0 < c := by assumption
      have hnone := (hvain P (itemsOf sh did) c (fun x hx => (hir x hx).1) hat).2.2 hc0
      have HNO := Lib.hid hnone
      have hbkf := hbk2.mono (show m ≤ m + cost β u by omega)
      clear hat hnone
      go_ret2
      exact ⟨by rw [HNO.out]; rfl, hbkf, Kz.of_below hb12 _⟩
    · have hcn : c ≤ 0 := by assumption
      obtain ⟨hc0, hcm, -⟩ := hvain P (itemsOf sh did) c (fun x hx => (hir x hx).1) hat
      have hHK := Lib.hid hkey2
      have HIR := Lib.hid hir
      have hZ2 : Z mb := hZ
      obtain ⟨kb, hkb⟩ : ∃ kb : ByteArray, (⟨(keyL P (itemsOf sh did)).toArray⟩ : ByteArray) = kb := ⟨_, rfl⟩
      rw [hkb] at hHK hkey2 ⊢
      clear hat hwc hvain hmap hcb hkb
      go_loopw [35] (fun i wr => ∃ k mk : Nat, k ≤ n ∧ i = .int .i64 k ∧ firstOf (goL sh cs P (itemsOf sh did)) (cs.take k) = none ∧ BookAt wr bb mb sh A n cc B cs mk ∧ mk ≤ m + cand sh cs P k * cost β (u - 1) ∧ Kz (fun k => k ≠ mb) w2 wr) (fun i _ => n - (intOf i).toNat)
      case atStart => exact ⟨0, m, by omega, rfl, rfl, hbk2, by omega, Kz.refl _ _⟩
      case round =>
        obtain ⟨k, mk, hk, rfl, hfirst, hbkr, hmk, hkr⟩ := hrel
        have hwr := hkr.size
        obtain ⟨D2, hmap2, -⟩ := hbk2.map
        obtain ⟨es2, cl2, hme, -⟩ := hmap2
        have hsor := (sl_kz hso2 hkr hme).more hwr
        have hsr := hs2.kz hkr (fun g _ hg e => hg (e ▸ hZ2))
        have hb0r := hb02.trans (hkr.below (fun k hk => by omega) (by have := hb12.size; omega))
        have hmbr : mb < wr.heap.size := by have := hbkr.blk.lt; have := hbkr.lts; omega
        clear hme
        by_cases hlt : k < n
        · obtain ⟨x, hcc⟩ : ∃ x, cs[k]? = some x := ⟨_, List.getElem?_eq_getElem (by rw [HN.out]; exact hlt)⟩
          have hidx := hbkr.row.idx (P := Tryd.prog) (c := cc) Tryd.underlying73 hcaSz hlt
          obtain ⟨f0, f1, f2, f3, f4, f5, f6, f7, f8⟩ := hc_cells hbkr.row hlt hcc
          have HID := Lib.hid (hid k x hcc)
          have HCC := Lib.hid hcc
          have hcand := cand_snoc sh cs P k x hcc
          have hfs : firstOf (goL sh cs P (itemsOf sh did)) (cs.take (k + 1)) = goL sh cs P (itemsOf sh did) x := by
            rw [take_one cs k x hcc, firstOf_app, hfirst]
            show firstOf (goL sh cs P (itemsOf sh did)) [x] = _
            simp only [firstOf]
            cases goL sh cs P (itemsOf sh did) x <;> rfl
          have hgo : goL sh cs P (itemsOf sh did) x = if nextL sh cs P x && stepL sh (itemsOf sh did) x then (findL sh cs (place P x) (spDo sh (itemsOf sh did) x.op)).map (x.id :: ·) else none := rfl
          obtain ⟨nx, hnx⟩ : ∃ nx, nextL sh cs P x = nx := ⟨_, rfl⟩
          obtain ⟨st, hst⟩ : ∃ st, stepL sh (itemsOf sh did) x = st := ⟨_, rfl⟩
          rw [hnx, hst] at hgo
          rw [hnx] at hcand
          have HCA := Lib.hid hcand
          have HFS := Lib.hid hfs
          have HGO := Lib.hid hgo
          have HNX := Lib.hid hnx
          have HST := Lib.hid hst
          clear hcc hcand hfs hgo hnx hst
          go_upto_region 9 with (fail)
          have hb3 : Below wr.heap.size wr (wr.alloc (.cells #[.int .i64 x.began, .int .i64 x.ended, .int .i64 x.id, .int .i64 x.th, .int .i64 x.kind, .int .i64 x.key, .int .i64 x.code, .bool x.ok, .int .i64 x.val] 88)) := (Below.refl _ _).alloc (Nat.le_refl _) _
          have hx := Blk.new wr 88 #[.int .i64 x.began, .int .i64 x.ended, .int .i64 x.id, .int .i64 x.th, .int .i64 x.kind, .int .i64 x.key, .int .i64 x.code, .bool x.ok, .int .i64 x.val]
          obtain ⟨X, hX⟩ : ∃ X, wr.heap.size = X := ⟨_, rfl⟩
          have hXl : X < (wr.alloc (.cells #[.int .i64 x.began, .int .i64 x.ended, .int .i64 x.id, .int .i64 x.th, .int .i64 x.kind, .int .i64 x.key, .int .i64 x.code, .bool x.ok, .int .i64 x.val] 88)).heap.size := by simp [← hX]
          clear hidx f0 f1 f2 f3 f4 f5 f6 f7 f8
          generalize (wr.alloc (.cells #[.int .i64 x.began, .int .i64 x.ended, .int .i64 x.id, .int .i64 x.th, .int .i64 x.kind, .int .i64 x.key, .int .i64 x.code, .bool x.ok, .int .i64 x.val] 88)) = w3 at *
          rw [hX] at hx
          have hs3 := hsr.step' hb3
          go_wp2_with fail
          refine (spec_Copy hs3 (by omega)).mono ?_
          rintro e w4 ⟨g, rfl, hg4, hb4⟩
          have hb34 := hb3.trans (hb4.mono hb3.size)
          have hbk4 := hbkr.step hb34
          have hx4 := hx.step hb4
          have cx4 := hx4.cells
          have hBw4 : B ≤ w4.heap.size := by have := hbk4.blk.lt; have := hbk4.lts; omega
          have hnext := book_next bb sh (.map (some mb)) A n cc B P k cs x w4 hbk4.blk hbk4.row hBw4 HN.out (by omega) hid hP HCC.out
          rw [HNX.out] at hnext
          have hk4 := hkr.step hb34
          cases nx
          · go_wp2_with fail
            refine hnext.mono ?_
            rintro e w5 ⟨rfl, hb5⟩
            have hbk5 := hbk4.step hb5
            have hk5 := hk4.step hb5
            clear cx4 hnext
            go_wp2_with fail
            exact ⟨⟨k + 1, mk, by omega, by go_num, by rw [HFS.out, HGO.out]; rfl, hbk5, by rw [HCA.out]; simpa using hmk, hk5⟩, by simp [intOf]; omega⟩
          · go_wp2_with fail
            refine hnext.mono ?_
            rintro e w5 ⟨rfl, hb5⟩
            have hbk5 := hbk4.step hb5
            have hk5 := hk4.step hb5
            have hx5 := hx4.step hb5
            have hg5 := hg4.step' hb5
            clear cx4 hnext
            have cx5 := hx5.cells
            have hstep := lin_step x w5 hg5 (by omega) hrise
            rw [HST.out] at hstep
            go_wp2_with fail
            refine hstep.mono ?_
            rintro e w6 ⟨rfl, hg6, hkg6⟩
            have hb56 : Below w3.heap.size w5 w6 := hkg6.below (fun k hk => hk) (by have := hb4.size; have := hb5.size; omega)
            have hb36 := (hb4.trans (hb5.mono hb4.size)).trans hb56
            have hbr6 := hb3.trans (hb36.mono hb3.size)
            have hbk6 := hbkr.step hbr6
            have hk6 := hkr.step hbr6
            have hx6 := hx5.kz hkg6 hXl
            have hsor6 := (hsor.step (Nat.le_refl _) hbr6).more hbr6.size
            clear cx5 hstep
            cases st
            · have hmk' : mk ≤ m + cand sh cs P (k + 1) * cost β (u - 1) := by rw [HCA.out]; simp only [if_true, Nat.add_mul, Nat.one_mul]; omega
              have HMK := Lib.hid hmk'
              clear hmk'
              go_wp2_with fail
              exact ⟨⟨k + 1, mk, by omega, by go_num, by rw [HFS.out, HGO.out]; rfl, hbk6, HMK.out, hk6⟩, by simp [intOf]; omega⟩
            · have hmay : may sh x.op = true := by
                have := HST.out
                unfold stepL at this
                exact (Bool.and_eq_true_iff.1 this).1
              have hnin : isIn P x = false := by
                have := HNX.out
                unfold nextL at this
                cases hh : isIn P x
                · rfl
                · rw [hh] at this; simp at this
              have hss : spStep sh (itemsOf sh did) x.op = itemsOf sh (did ++ [x.op]) := by
                unfold spStep; rw [hmay, if_pos rfl, itemsOf_snoc]
              rw [hss] at hg6
              have hleft := left_place (n := n) (by rw [HID.out, Int.toNat_natCast]; exact hlt) hnin
              have hpl := place_lt (c := x) hP (by rw [HID.out, Int.toNat_natCast]; omega)
              have hcons := ih (u - 1) (by omega) (place P x) (did ++ [x.op]) (ord ++ [x.id])
              have hXmb : X ≠ mb := by omega
              have hqx : ∀ (q : Such (Kz (fun k => k ≠ mb) w6)) (i : Nat), q.val.cell? ⟨X, i, none⟩ = (#[.int .i64 x.began, .int .i64 x.ended, .int .i64 x.id, .int .i64 x.th, .int .i64 x.kind, .int .i64 x.key, .int .i64 x.code, .bool x.ok, .int .i64 x.val] : Array Value)[i]? := fun q i => (hx6.kz q.ok hXmb).cell i
              have hsl3 : ∀ W : World, (Instr.sliceAt 29 (.slice Ao no co) none (some (.int .i64 (no : Int))) (some (.int .i64 (no : Int)))).run Tryd.prog W = .ok (.slice Ao no no) W := run_upto3 Tryd.underlying29 intSz Ao no co hoc
              have hinh : Nonempty (Such (Kz (fun k => k ≠ mb) w6)) := Such.ne_ (Kz.refl _ _)
              have hidk := HID.out
              have hbitp : bits .or .u64 (P : Int) (IntKind.u64.wrap (2 ^ k)) = ((place P x : Nat) : Int) := by
                have hk2 : 2 ^ k < 18446744073709551616 := Nat.lt_of_lt_of_le (Nat.pow_lt_pow_right (by omega) (show k < 64 by omega)) (by decide)
                have e1 : IntKind.u64.wrap (2 ^ k) = ((2 ^ k : Nat) : Int) := by
                  rw [IntKind.wrap_u64, show ((2 : Int) ^ k) = ((2 ^ k : Nat) : Int) by simp]
                  generalize 2 ^ k = q at *
                  omega
                unfold place
                rw [e1, HID.out, Int.toNat_natCast, Nat.shiftLeft_eq, Nat.one_mul, bits_or_u64_nat P (2 ^ k) hP hk2]
              have HBITP := Lib.hid hbitp
              clear hbitp
              go_upto_region 11 with (fail)
              refine wp_region_ph (fun w' => ∃ q : Such (Kz (fun k => k ≠ mb) w6), w' = q.val) 22 [([0, 1, 2, 3, 4, 5, 6, 7, 8, 9, 10, 11, 12, 13, 14], 15), ([], 16), ([], 17)] [18, 19, 20, 21] [22] (by kernel_rfl) (by kernel_rfl) (Such.mk_ (Kz.refl _ _).drew) ?_
              refine wpPh_cons ?_
              simp only [opsAt, List.map_cons, List.map_nil, List.getD_cons_zero, List.getD_cons_succ]
              repeat (go_big_quiet_step (fail))
              refine wpQuiet_nil ?_
              refine wpPh_op rfl (fun K' hK' => ?_)
              go_simp
              have hbx : Below w6.heap.size w6 (w6.drew.alloc (.cells #[.int .i64 (k : Int)] 3)) := ((Below.refl _ _).drew).alloc (by simp) _
              refine hK' _ _ (Such.mk_ ((Kz.refl _ _).drew.alloc _)) ?_
              clear hK' K'
              refine wpPh_cons ?_
              refine wpQuiet_nil ?_
              refine wpPh_op rfl (fun K' hK' => ?_)
              rw [if_pos (by rfl)]
              have hb67 : Below w6.heap.size w6 (w6.alloc (.cells #[.int .i64 (k : Int)] 3)).drew := ((Below.refl _ _).alloc (Nat.le_refl _) _).drew
              have hy7 : (w6.alloc (.cells #[.int .i64 (k : Int)] 3)).drew.cell? ⟨w6.heap.size, 0, none⟩ = some (.int .i64 (k : Int)) := (Blk.new w6 3 #[.int .i64 (k : Int)]).cell 0
              have hk7 : Kz (fun k => k ≠ mb) w6 (w6.alloc (.cells #[.int .i64 (k : Int)] 3)).drew := ((Kz.refl _ _).alloc _).drew
              have hso7 := hsor6.below hb67
              generalize (w6.alloc (.cells #[.int .i64 (k : Int)] 3)).drew = w7 at *
              refine wp_append_full w7 (.tmp 65) (.tmp 68) rfl Ao no w6.heap.size ord k ⟨w6.heap.size, 0, none⟩ rfl hso7 rfl hy7 rfl (by omega) ?_
              intro gx cx w8 hown8 hcx8 hgrow8
              have hb78 : Below w7.heap.size w7 w8 := (Below.refl _ _).grown hgrow8 (Nat.le_refl _) (fun g e => by cases e)
              have hb68 := hb67.trans (hb78.mono hb67.size)
              refine hK' _ _ (Such.mk_ (hk7.step hb78)) ?_
              clear hK' K'
              refine wpPh_cons ?_
              refine wpQuiet_nil ?_
              refine wpPh_op rfl (fun K' hK' => ?_)
              go_simp
              rw [HBITP.out]
              have hb38 := hb36.trans (hb68.mono (by have := hb36.size; omega))
              have hbk8 := hbk6.step hb68
              have hg8 := hg6.step' hb68
              have hwr8 := hbr6.trans (hb68.mono hbr6.size)
              have hb08 := hb0r.trans (hwr8.mono (by omega))
              have hZ8 : mb < w3.heap.size := by have := hb3.size; omega
              have hso8 := Sl.of_own hown8
              have hcost : mk + cost β (u - 1) ≤ m + cost β u ∧ mk + cost β (u - 1) ≤ m + cand sh cs P (k + 1) * cost β (u - 1) := by
                have h1 : mk + cost β (u - 1) ≤ m + cand sh cs P (k + 1) * cost β (u - 1) := by rw [HCA.out]; simp only [if_true, Nat.add_mul, Nat.one_mul]; omega
                have hle := cand_le hβ P (k + 1)
                obtain ⟨v, rfl⟩ : ∃ v, u = v + 1 := ⟨u - 1, by omega⟩
                rw [Nat.add_sub_cancel] at h1 ⊢
                have := Nat.mul_le_mul_right (cost β v) hle
                simp only [cost]
                exact ⟨by omega, h1⟩
              have hk68 : Kz (fun k => k ≠ mb) w6 w8 := Kz.of_below hb68 _
              rw [HID.out] at hcons
              have hrec := hcons (no + 1) cx mk g (some ⟨gx, 0, none⟩) (fun k => k < w3.heap.size) w8 (by omega) hpl (fun o ho => by
                rcases List.mem_append.1 ho with ho | ho
                · exact hdid o ho
                · obtain rfl : o = x.op := by simpa using ho
                  exact of_decide_eq_true hmay) (by rw [List.length_append, List.length_cons, List.length_nil]; omega) (by rw [List.length_append, List.length_cons, List.length_nil]; omega) hcx8 (by omega) hbk8 hb08 hg8 hZ8 hso8 (Nat.le_trans hcost.1 hm)
              have hdo : spDo sh (itemsOf sh did) x.op = itemsOf sh (did ++ [x.op]) := (itemsOf_snoc sh did x.op).symm
              have hgo2 := HGO.out
              simp only [Bool.and_true, if_true, hdo] at hgo2
              have HGO2 := Lib.hid hgo2
              have HC := Lib.hid hcost
              clear hcons hgo2 hcost hg6 hg5 hg4 hsor6 hso7 hy7 hk7 hown8 hgrow8 hb67 hb78
              refine hrec.mono ?_
              rintro e w9 ⟨htold, hbk9, hk9⟩
              clear hrec
              have hk89 : Kz (fun k => k ≠ mb) w6 w9 := hk68.trans hk9
              have hk29 : Kz (fun k => k ≠ mb) w2 w9 := hk6.trans hk89
              cases hfr : findL sh cs (place P x) (itemsOf sh (did ++ [x.op])) with
              | none =>
                rw [hfr] at htold
                obtain rfl := htold
                have hgn : goL sh cs P (itemsOf sh did) x = none := by rw [HGO2.out, hfr]; rfl
                have HGN := Lib.hid hgn
                clear hgn hfr
                refine hK' _ _ (Such.mk_ hk89) ?_
                clear hK' K'
                refine wpPh_nil ?_
                repeat (go_big_quiet_step (fail))
                refine wpQuiet_nil ?_
                refine wpTail_late _ _ _ (by kernel_rfl) ?_
                simp only [opsAt, List.map_cons, List.map_nil, List.getD_cons_zero, List.getD_cons_succ]
                go_wp2_with fail
                refine NoPanic.normal ?_
                go_wp2_with fail
                exact ⟨⟨k + 1, mk + cost β (u - 1), by omega, by go_num, by rw [HFS.out, HGN.out], hbk9, HC.out.2, hk29⟩, by simp [intOf]; omega⟩
              | some r =>
                rw [hfr] at htold
                obtain ⟨Ar, cr, rfl, hsr9, hcr9⟩ := htold
                have hgs : goL sh cs P (itemsOf sh did) x = some (x.id :: r) := by rw [HGO2.out, hfr]; rfl
                have HGS := Lib.hid hgs
                clear hgs hfr
                refine hK' _ _ (Such.mk_ hk89) ?_
                clear hK' K'
                refine wpPh_nil ?_
                repeat (go_big_quiet_step (fail))
                refine wpQuiet_nil ?_
                refine wpTail_late _ _ _ (by kernel_rfl) ?_
                simp only [opsAt, List.map_cons, List.map_nil, List.getD_cons_zero, List.getD_cons_succ]
                go_wp2_with fail
                refine NoPanic.normal ?_
                go_wp2_with fail
                have hfin : findL sh cs P (itemsOf sh did) = some ((k : Int) :: r) := by
                  have h1 : firstOf (goL sh cs P (itemsOf sh did)) cs = firstOf (goL sh cs P (itemsOf sh did)) (cs.take (k + 1) ++ cs.drop (k + 1)) := by rw [List.take_append_drop]
                  rw [HF.out, if_neg (by decide), h1, firstOf_app, HFS.out, HGS.out, HID.out]
                have hlen : no + 1 + r.length = no + ((k : Int) :: r).length := by rw [List.length_cons]; omega
                have hord : ord ++ [(k : Int)] ++ r = ord ++ (k : Int) :: r := by rw [List.append_assoc]; rfl
                rw [hlen, hord] at hsr9
                rw [hlen] at hcr9 ⊢
                go_ret2
                exact ⟨by rw [hfin]; exact ⟨Ar, cr, rfl, hsr9, hcr9⟩, hbk9.mono HC.out.1, (Kz.of_below hb12 _).trans hk29⟩
        · obtain rfl : k = n := by omega
          rw [List.take_of_length_le (by rw [HN.out]; omega)] at hfirst
          have hnone : findL sh cs P (itemsOf sh did) = none := by rw [HF.out, if_neg (by decide), hfirst]
          have hcost : mk + 1 ≤ m + cost β u := by
            rcases Nat.eq_zero_or_pos u with h0 | h0
            · have hz := cand_zero (sh := sh) HN.out hid (h0 ▸ hu) k
              rw [hz, Nat.zero_mul] at hmk
              have := cost_pos β u
              omega
            · have hle := cand_le hβ P k
              obtain ⟨v, rfl⟩ : ∃ v, u = v + 1 := ⟨u - 1, by omega⟩
              rw [Nat.add_sub_cancel] at hmk
              have := Nat.mul_le_mul_right (cost β v) hle
              simp only [cost] at hm ⊢
              omega
          obtain ⟨D3, hmap3, hvain3⟩ := hbkr.map
          have hcb3 := hbkr.blk.cells
          have hmaxl : maxLen = 9223372036854775807 := rfl
          have HM3 := Lib.hid hmaxl
          have HNO := Lib.hid hnone
          have hbdd : m + cost β u ≤ 9223372036854775807 := by rw [← hmaxl]; exact hm
          obtain ⟨es3, cl3, hme3, -⟩ := id hmap3
          clear hfirst hnone hmaxl
          go_wp2_with (first
            | (at_lookup; refine wpList_lookup_own_int _ rfl _ _ 74 rfl 9 3 .i64 strKeyed Tryd.underlying74 Tryd.underlying3 (zeroInt _) mb mk _ rfl hmap3 _ _ rfl hkey2 ?_; intro c3 hat3 hwc3; obtain ⟨hc30, hc3m, -⟩ := hvain3 P (itemsOf sh did) c3 (fun x hx => (hir x hx).1) hat3)
            | (at_mapUpdate; refine wpList_mapUpdate_own _ rfl _ _ _ 74 rfl 9 3 strKeyed Tryd.underlying74 _ mb mk _ rfl hmap3 (by rw [HM3.out]; omega) _ _ _ rfl rfl hkey2 _ [] (plainElem_int Tryd.underlying3 (by simp [Lit.wf, IntKind.min, IntKind.max, IntKind.signed, IntKind.bits]; omega)) ?_; intro w9 hown9 hgrow9))
          have hkz9 : Kz (fun k => k ≠ mb) wr w9 := (Kz.refl _ _).grown hgrow9 (fun g e h => h (by injection e with e; exact e.symm))
          have hbk9 : BookAt w9 bb mb sh A k cc B cs (m + cost β u) := by
            have hlts := hbkr.lts
            have h9 : BookAt w9 bb mb sh A k cc B cs (mk + 1) := ⟨hbkr.blk.grown hgrow9 (fun e => by injection e with e; omega), sl_kz hbkr.row hkz9 hme3, hlts, _, hown9, hvain3.put hmap3.isMap (fun x hx => (hir x hx).1) HNO.out ⟨hc30, hc3m⟩⟩
            exact h9.mono hcost
          go_ret2
          exact ⟨by rw [HNO.out]; rfl, hbk9, ((Kz.of_below hb12 _).trans hkr).trans hkz9⟩
  · have hfin : Told w1 no ord (.returned (.tuple #[.slice Ao no co, .bool true])) (findL sh cs P (itemsOf sh did)) := by
      rw [HF.out]
      exact ⟨Ao, co, rfl, by rw [List.append_nil]; exact hso1, hoc⟩
    have hbkf := hbk1.mono (show m ≤ m + cost β u by omega)
    go_wp2_with fail
    go_ret2
    exact ⟨hfin, hbkf, Kz.of_below hb1 _⟩
end Go.Proofs.YtboommppikfgnaaDoor
