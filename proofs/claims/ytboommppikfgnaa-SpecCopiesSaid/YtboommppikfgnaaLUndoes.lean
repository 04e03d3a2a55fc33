/- The law SpecUndoes returns true, whatever the shape, the operations and the key.
   Conditions: none. -/
import Derived.Test.YtboommppikfgnaaSRight
import Derived.Test.YtboommppikfgnaaSUndo
namespace Go.Proofs.Ytboommppikfgnaa
open Go Go.RowKit

section
variable {Z : Nat → Prop} {b : Nat} {sh : Int} {items : List Int} {w w' : World}
/-- the kept set grows by whatever is new -/
theorem SAt.more (h : SAt w Z b sh items) (hb : Below w.heap.size w w') : ∃ Z' : Nat → Prop, SAt w' Z' b sh items ∧ (∀ k, Z k → Z' k) ∧ (∀ k, w.heap.size ≤ k → k < w'.heap.size → Z' k) :=
  ⟨_, h.step hb, fun _ h => .inl h, fun _ h1 h2 => .inr ⟨h1, h2⟩⟩
theorem spec_Do_is (o : Opn) (r : Rsl) (l' : List Int) (h : SAt w Z b sh items) (hl : items.length ≤ 1000) (hrs : sh = 1 ∨ sh = 2 → rises items) (hm : mayP sh o.kind o.key) (hr : spTell items o = r) (hd : spDo sh items o = l') :
    Calls Try.prog 33 #[.pointer (some ⟨b, 0, none⟩), .agg #[.int .i64 o.kind, .int .i64 o.key]] w fun e w' =>
      e = .returned (.tuple #[.agg #[.int .i64 r.code, .bool r.ok, .int .i64 r.val], .int .i64 0]) ∧ SAt w' Z b sh l' ∧ Kz Z w w' := by
  have hmay : may sh o = true := decide_eq_true hm
  refine (spec_Do o h hl hrs).mono fun e w' ⟨he, hs, hk⟩ => ?_
  simp only [spRes, spErr, spStep, hmay, if_true, hr, hd] at he hs
  exact ⟨he, hs, hk⟩
end

set_option maxRecDepth 100000 in
set_option maxHeartbeats 12800000 in
theorem law_undoes (x8 ky : Int) (hx8 : 0 ≤ x8 ∧ x8 ≤ 255) (hky : 0 ≤ ky ∧ ky ≤ 65535) (A : Option Addr) (n c B0 : Nat) (ops : List Opn) (w : World) (hs : Sl w B0 2 A n (ops.flatMap Opn.cells)) (hel : ops.length = n) (hB0 : B0 ≤ w.heap.size) :
    Calls Try.prog 11 #[.int .u8 x8, .slice A n c, .int .u16 ky] w fun e w' => e = .returned (.bool true) ∧ Below w.heap.size w w' := by
  obtain ⟨hx0, hx1⟩ := hx8
  obtain ⟨hy0, hy1⟩ := hky
  by_cases hbig : 60 < n
  · go_enter Try.func11, Try.ntmps11
    go_wp2_with fail
    refine (sawake _).mono ?_
    rintro e w1 ⟨rfl, h1⟩
    go_wp2_with fail
    go_ret
    exact ⟨rfl, h1⟩
  have hn60 : n ≤ 60 := by omega
  have hgt : decide ((60 : Int) < (n : Int)) = false := by simp; omega
  obtain ⟨iI, hiI, zI, sI, bI⟩ := info_parts info_int
  go_enter Try.func11, Try.ntmps11
  go_wp2_with fail
  refine (sawake _).mono ?_
  rintro e w1 ⟨rfl, h1⟩
  have hs1 := hs.below (h1.mono hB0)
  have hB1 : B0 ≤ w1.heap.size := by have := h1.size; omega
  clear hs
  go_wp2_with fail
  obtain ⟨K, hK⟩ : ∃ K, K = 1 + x8 % 4 := ⟨_, rfl⟩
  obtain ⟨x, hx⟩ : ∃ x, x = ky % 1000 := ⟨_, rfl⟩
  have hK1 : 1 ≤ K ∧ K ≤ 4 := by omega
  have hxx : 0 ≤ x ∧ x ≤ 999 := by omega
  rw [← hK, ← hx]
  clear hK hx
  generalize x8 % 4 = kq at *
  refine (law_right K A n c B0 ops w1 hs1 hB1 hel (by omega)).mono ?_
  rintro e w2 ⟨v2, rfl, ho2, hb2⟩
  have hall : allMay K (ops.filter (may K)) := fun o ho => of_decide_eq_true (List.mem_filter.1 ho).2
  have hdl : (ops.filter (may K)).length ≤ 60 := by have := List.length_filter_le (may K) ops; omega
  generalize ops.filter (may K) = did at *
  obtain ⟨A2, c2, rfl, -, -, -⟩ := own_form ho2
  have hsl2 := Sl.of_own ho2
  have h2 := h1.trans (hb2.mono h1.size)
  clear ho2 hs1 h1 hb2 hB1 hel
  generalize hdn : did.length = dn at *
  have HDN := Lib.hid hdn
  clear hdn
  go_wp2_with fail
  refine (spec_Play K hK1 A2 dn c2 w2.heap.size did w2 hsl2 (Nat.le_refl _) HDN.out (by omega)).mono ?_
  rintro e w3 (⟨-, v3, g, rfl, s3, ho3, hb3⟩ | ⟨hnot, -⟩)
  case inr => exact absurd hall hnot
  have hil : (itemsOf K did).length ≤ 60 := by have := itemsOf_len K did; have := HDN.out; omega
  have hr0 := items_rise K did hall
  have hund : (K = 1 ∨ K = 2) → ∃ l1 l2, Undone K (itemsOf K did) x l1 l2 := fun hk => undo_set K hk did hall x hxx
  have h3 := h2.trans (hb3.mono h2.size)
  obtain ⟨A3, c3, rfl, -, -, -⟩ := own_form ho3
  have s3' := s3.less (Z' := fun k => k < w2.heap.size) (fun _ h => .inl h)
  have hw23 : w.heap.size ≤ w2.heap.size := h2.size
  clear s3 ho3 hb3 hsl2 h2 hall
  generalize w2.heap.size = N at *
  generalize itemsOf K did = q at *
  have HU := Lib.hid hund
  have HR0 := Lib.hid hr0
  clear hund hr0 HDN
  go_wp2_with fail
  refine (bag_Items s3' (by omega)).mono ?_
  rintro e w4 ⟨v4, rfl, ho4, hb4⟩
  obtain ⟨Z4, s4, hz4, hz4'⟩ := s3'.more hb4
  have hzw : ∀ k, k < w.heap.size → Z4 k := fun k hk => hz4 k (by omega)
  have h4 := h3.trans (hb4.mono h3.size)
  have hzq : ∀ k, v4.ownBlock = some k → Z4 k := fun k hk => by
    obtain ⟨h1, cs, h'⟩ := own_at ho4 k hk
    exact hz4' k h1 h'.lt
  have ho4' : w4.ownsRow 0 3 1 v4 q.length (ints q) := own_mono ho4 (Nat.zero_le _)
  clear s3' hb4 hz4 hz4' ho4 h3 hw23
  generalize hqn : q.length = qn at *
  have HQ := Lib.hid hqn
  clear hqn
  obtain ⟨A4, c4, rfl, hc4, hn4, -⟩ := own_form ho4'
  have kc : (K = 1 ∨ K = 2) ∨ K = 3 ∨ K = 4 := by omega
  have hws4 : w.heap.size ≤ w4.heap.size := h4.size
  rcases kc with hset | rfl | rfl
  · obtain ⟨l1, l2, U⟩ := HU.out hset
    have e1 := Lib.hid U
    have hn1 : l1.length ≤ 1000 := by have := U.n1; have := HQ.out; omega
    have hn2 : l2.length ≤ 1000 := by have := U.n2; have := HQ.out; omega
    have hq1000 : q.length ≤ 1000 := by have := HQ.out; omega
    clear U
    rcases hset with rfl | rfl
    all_goals
      obtain ⟨okq, hok⟩ : ∃ okq, okq = !q.contains x := ⟨_, rfl⟩
      have HOK := Lib.hid hok
      clear hok
      go_wp2_with fail
      refine (spec_Do_is ⟨1, x⟩ ⟨0, okq, 0⟩ l1 s4 hq1000 (fun _ => e1.out.r0) (mayP_set (by omega) hxx (.inl rfl)) (by rw [HOK.out]; exact e1.out.t1) e1.out.d1).mono ?_
      rintro e wa ⟨rfl, sa, ka⟩
      have ba := h4.trans (ka.below hzw hws4)
      have oa : wa.ownsRow 0 3 1 (.slice A4 qn c4) qn (ints q) := own_kz ho4' ka hzq
      have hwsa : w.heap.size ≤ wa.heap.size := ba.size
      clear s4 ka ho4' h4
      go_upto_region 14 with (fail)
      have pa : Below wa.heap.size wa (wa.alloc (.cells #[.int .i64 0, .bool okq, .int .i64 0] 36)) := (Below.refl _ _).alloc (Nat.le_refl _) _
      have ya0 := Blk.new wa 36 #[.int .i64 0, .bool okq, .int .i64 0]
      generalize (wa.alloc (.cells #[.int .i64 0, .bool okq, .int .i64 0] 36)) = va at *
      obtain ⟨Za, ta, ma, ma'⟩ := sa.more pa
      have oa' := own_step oa pa
      have ba' := ba.trans (pa.mono hwsa)
      have hzwa : ∀ k, k < w.heap.size → Za k := fun k hk => ma k (hzw k hk)
      have hzqa : ∀ k, (Value.slice A4 qn c4).ownBlock = some k → Za k := fun k hk => ma k (hzq k hk)
      have za := ma' wa.heap.size (Nat.le_refl _) ya0.lt
      have ya := ya0
      have hvsa := pa.size
      clear sa pa oa ba ma ma' ya0 hzw hzq
      generalize wa.heap.size = Ya at *
      have hwsa : w.heap.size ≤ va.heap.size := ba'.size
      go_wp2_with fail
      refine (spec_Do_is ⟨3, x⟩ ⟨0, true, 0⟩ l1 ta hn1 (fun _ => e1.out.r1) (mayP_set (by omega) hxx (.inr (.inr rfl))) e1.out.t2 e1.out.d2).mono ?_
      rintro e wb ⟨rfl, sb, kb⟩
      have bb := ba'.trans (kb.below hzwa hwsa)
      have ob : wb.ownsRow 0 3 1 (.slice A4 qn c4) qn (ints q) := own_kz oa' kb hzqa
      have yab := ya.kz kb za
      have hwsb : w.heap.size ≤ wb.heap.size := bb.size
      clear ta kb oa' ba' ya
      go_upto_region 15 with (fail)
      have pb : Below wb.heap.size wb (wb.alloc (.cells #[.int .i64 0, .bool true, .int .i64 0] 36)) := (Below.refl _ _).alloc (Nat.le_refl _) _
      have yb0 := Blk.new wb 36 #[.int .i64 0, .bool true, .int .i64 0]
      generalize (wb.alloc (.cells #[.int .i64 0, .bool true, .int .i64 0] 36)) = vb at *
      obtain ⟨Zb, tb, mb, mb'⟩ := sb.more pb
      have ob' := own_step ob pb
      have bb' := bb.trans (pb.mono hwsb)
      have hzwb : ∀ k, k < w.heap.size → Zb k := fun k hk => mb k (hzwa k hk)
      have hzqb : ∀ k, (Value.slice A4 qn c4).ownBlock = some k → Zb k := fun k hk => mb k (hzqa k hk)
      have ya := yab.step pb
      have za := mb _ za
      have zb := mb' wb.heap.size (Nat.le_refl _) yb0.lt
      have yb := yb0
      have hvsb := pb.size
      clear sb pb ob bb mb mb' yb0 hzwa hzqa yab
      generalize wb.heap.size = Yb at *
      have hwsb : w.heap.size ≤ vb.heap.size := bb'.size
      go_wp2_with fail
      refine (spec_Do_is ⟨2, x⟩ ⟨0, true, 0⟩ l2 tb hn1 (fun _ => e1.out.r1) (mayP_set (by omega) hxx (.inr (.inl rfl))) e1.out.t3 e1.out.d3).mono ?_
      rintro e wc ⟨rfl, sc, kc⟩
      have bc := bb'.trans (kc.below hzwb hwsb)
      have oc : wc.ownsRow 0 3 1 (.slice A4 qn c4) qn (ints q) := own_kz ob' kc hzqb
      have yac := ya.kz kc za
      have ybc := yb.kz kc zb
      have hwsc : w.heap.size ≤ wc.heap.size := bc.size
      clear tb kc ob' bb' ya yb
      go_upto_region 16 with (fail)
      have pc : Below wc.heap.size wc (wc.alloc (.cells #[.int .i64 0, .bool true, .int .i64 0] 36)) := (Below.refl _ _).alloc (Nat.le_refl _) _
      have yc0 := Blk.new wc 36 #[.int .i64 0, .bool true, .int .i64 0]
      generalize (wc.alloc (.cells #[.int .i64 0, .bool true, .int .i64 0] 36)) = vc at *
      obtain ⟨Zc, tc, mc, mc'⟩ := sc.more pc
      have oc' := own_step oc pc
      have bc' := bc.trans (pc.mono hwsc)
      have hzwc : ∀ k, k < w.heap.size → Zc k := fun k hk => mc k (hzwb k hk)
      have hzqc : ∀ k, (Value.slice A4 qn c4).ownBlock = some k → Zc k := fun k hk => mc k (hzqb k hk)
      have ya := yac.step pc
      have za := mc _ za
      have yb := ybc.step pc
      have zb := mc _ zb
      have zc := mc' wc.heap.size (Nat.le_refl _) yc0.lt
      have yc := yc0
      have hvsc := pc.size
      clear sc pc oc bc mc mc' yc0 hzwb hzqb yac ybc
      generalize wc.heap.size = Yc at *
      have hwsc : w.heap.size ≤ vc.heap.size := bc'.size
      go_wp2_with fail
      refine (spec_Do_is ⟨2, x⟩ ⟨0, false, 0⟩ l2 tc hn2 (fun _ => e1.out.r2) (mayP_set (by omega) hxx (.inr (.inl rfl))) e1.out.t4 e1.out.d4).mono ?_
      rintro e wd ⟨rfl, sd, kd⟩
      have bd := bc'.trans (kd.below hzwc hwsc)
      have od : wd.ownsRow 0 3 1 (.slice A4 qn c4) qn (ints q) := own_kz oc' kd hzqc
      have yad := ya.kz kd za
      have ybd := yb.kz kd zb
      have ycd := yc.kz kd zc
      have hwsd : w.heap.size ≤ wd.heap.size := bd.size
      clear tc kd oc' bc' ya yb yc
      go_upto_region 17 with (fail)
      have pd : Below wd.heap.size wd (wd.alloc (.cells #[.int .i64 0, .bool false, .int .i64 0] 36)) := (Below.refl _ _).alloc (Nat.le_refl _) _
      have yd0 := Blk.new wd 36 #[.int .i64 0, .bool false, .int .i64 0]
      generalize (wd.alloc (.cells #[.int .i64 0, .bool false, .int .i64 0] 36)) = vd at *
      obtain ⟨Zd, td, md, md'⟩ := sd.more pd
      have od' := own_step od pd
      have bd' := bd.trans (pd.mono hwsd)
      have hzwd : ∀ k, k < w.heap.size → Zd k := fun k hk => md k (hzwc k hk)
      have hzqd : ∀ k, (Value.slice A4 qn c4).ownBlock = some k → Zd k := fun k hk => md k (hzqc k hk)
      have ya := yad.step pd
      have za := md _ za
      have yb := ybd.step pd
      have zb := md _ zb
      have yc := ycd.step pd
      have zc := md _ zc
      have zd := md' wd.heap.size (Nat.le_refl _) yd0.lt
      have yd := yd0
      have hvsd := pd.size
      clear sd pd od bd md md' yd0 hzwc hzqc yad ybd ycd
      generalize wd.heap.size = Yd at *
      have hwsd : w.heap.size ≤ vd.heap.size := bd'.size
      clear za zb zc zd hzqd hzwd
      have hsl := Sl.of_own od'
      have H1 := Lib.hid td
      clear td od'
      have hb0 : Below vd.heap.size vd vd := Below.refl _ _
      have hbe := Lib.hid (show decide ((without q x).length = qn) = okq by rw [HOK.out, ← HQ.out]; exact without_len q x)
      have hl2 := Lib.hid e1.out.eq
      have hrise := Lib.hid e1.out.r0
      go_wp2_with fail
      go_loopw [97, 21] (fun i v wr => ∃ (j : Nat) (l : List Int), j ≤ qn ∧ i = .int .i64 j ∧ Hid (l = without (q.take j) x) ∧ l.length ≤ j ∧ wr.ownsRow vd.heap.size 3 1 v l.length (ints l) ∧ Below vd.heap.size vd wr) (fun i _ _ => qn - (intOf i).toNat)
      case atStart => exact ⟨0, [], by omega, rfl, rfl, Nat.le_refl _, World.ownsRow_nil _ _ _ _, hb0⟩
      case round =>
        obtain ⟨j, l, hj, rfl, hl, hlj, hown, hb⟩ := hrel
        have hbs := hb.size
        by_cases hjt : j < qn
        · have dj : decide ((j : Int) < (qn : Int)) = true := by simp; omega
          obtain ⟨y, hy⟩ : ∃ y, q[j]? = some y := ⟨_, List.getElem?_eq_getElem (by rw [HQ.out]; exact hjt)⟩
          have hslw := hsl.below hb
          have g1 := RowI.at_ hslw hjt hy
          have i1 := hslw.idx (P := Try.prog) (c := c4) Try.underlying62 intSz hjt
          have htk : q.take (j + 1) = q.take j ++ [y] := by rw [List.take_add_one, hy]; rfl
          have HT := Lib.hid htk
          have HY := Lib.hid hy
          have hprev : ∀ (z : Int), 0 < j → q[j - 1]? = some z → decide (y ≤ z) = false := fun z hj0 hz => by
            have h1 := List.pairwise_iff_getElem.1 hrise.out (j - 1) j (by rw [HQ.out]; omega) (by rw [HQ.out]; exact hjt) (by omega)
            rw [List.getElem?_eq_getElem (by rw [HQ.out]; omega)] at hz hy
            injection hz with hz; injection hy with hy
            rw [hz, hy] at h1
            simp; omega
          have HP := Lib.hid hprev
          clear htk hy hprev
          simp only [Nat.mul_one] at g1 i1
          rcases Nat.eq_zero_or_pos j with hj0 | hj0
          · subst hj0
            simp only [Nat.add_zero, Int.natCast_zero] at g1 i1
            by_cases hyx : y = x
            · subst hyx
              have hl' := Lib.hid (show l = without (q.take (0 + 1)) y by rw [HT.out, hl.out]; simp [without])
              clear hl
              go_wp2_with fail
              go_roundw
              case rel => exact ⟨0 + 1, l, by omega, by go_num, hl', by omega, hown, hb⟩
              case measure => simp [intOf] <;> omega
            · have hb1 : (y != x) = true := by simpa using hyx
              have hl' := Lib.hid (show l ++ [y] = without (q.take (0 + 1)) x by rw [HT.out, hl.out]; simp [without, hb1])
              clear hl hyx
              obtain ⟨A1, c1, rfl, -, -, -⟩ := own_form hown
              have hown' := hown.alloc (.cells #[.int .i64 y] 3)
              go_wp2_with (at_builtin; refine wpList_append_lies _ rfl _ _ _ rfl vd.heap.size 3 iI _ 1 8 Try.underlying62 hiI zI sI bI rfl (by omega) (.slice A1 l.length c1) l.length (ints l) rfl hown' ⟨wr.heap.size, 0, none⟩ 1 1 [.int .i64 y] rfl rfl (World.news_of_block (heap_alloc_new wr _)) (ints_one [y]) (by omega) (by unfold maxLen; omega) (by omega) (by simp; omega) (wr.heap.size + 1) (by simp) ?_; intro gg cap w11 hown2 hgrow hat hlt2)
              have hb11 := (hb.alloc hbs (.cells #[.int .i64 y] 3)).grown hgrow (by simp; omega) (fun x hx => (own_at hown' x hx).1)
              have hown3 : w11.ownsRow vd.heap.size 3 1 (.slice (some ⟨gg, 0, none⟩) (l.length + 1) cap) (l ++ [y]).length (ints (l ++ [y])) := by rw [ints_app, ints_one1]; simpa using hown2
              clear hown hown' hown2 hgrow hat hlt2
              go_wp2_with fail
              go_roundw
              case rel => exact ⟨0 + 1, l ++ [y], by omega, by go_num, hl', (by rw [List.length_append, List.length_singleton]; omega), hown3, hb11⟩
              case measure => simp [intOf] <;> omega
          · obtain ⟨z, hz⟩ : ∃ z, q[j - 1]? = some z := ⟨_, List.getElem?_eq_getElem (by rw [HQ.out]; omega)⟩
            have g2 := RowI.at_ hslw (by omega) hz
            have i2 := hslw.idx (P := Try.prog) (c := c4) Try.underlying62 intSz (k := j - 1) (by omega)
            rw [show ((j - 1 : Nat) : Int) = (j : Int) - 1 by omega] at i2
            simp only [Nat.mul_one] at g2 i2
            have dz := HP.out z (by omega) hz
            have hjp : (0 : Int) < (j : Int) := by omega
            have hj1 : (1 : Int) ≤ (j : Int) := by omega
            generalize j - 1 = j1 at *
            clear hz
            by_cases hyx : y = x
            · subst hyx
              have hl' := Lib.hid (show l = without (q.take (j + 1)) y by rw [HT.out, hl.out]; simp [without])
              clear hl
              go_wp2_with fail
              go_roundw
              case rel => exact ⟨j + 1, l, by omega, by go_num, hl', by omega, hown, hb⟩
              case measure => simp [intOf] <;> omega
            · have hb1 : (y != x) = true := by simpa using hyx
              have hl' := Lib.hid (show l ++ [y] = without (q.take (j + 1)) x by rw [HT.out, hl.out]; simp [without, hb1])
              clear hl hyx
              obtain ⟨A1, c1, rfl, -, -, -⟩ := own_form hown
              have hown' := hown.alloc (.cells #[.int .i64 y] 3)
              go_wp2_with (at_builtin; refine wpList_append_lies _ rfl _ _ _ rfl vd.heap.size 3 iI _ 1 8 Try.underlying62 hiI zI sI bI rfl (by omega) (.slice A1 l.length c1) l.length (ints l) rfl hown' ⟨wr.heap.size, 0, none⟩ 1 1 [.int .i64 y] rfl rfl (World.news_of_block (heap_alloc_new wr _)) (ints_one [y]) (by omega) (by unfold maxLen; omega) (by omega) (by simp; omega) (wr.heap.size + 1) (by simp) ?_; intro gg cap w11 hown2 hgrow hat hlt2)
              have hb11 := (hb.alloc hbs (.cells #[.int .i64 y] 3)).grown hgrow (by simp; omega) (fun x hx => (own_at hown' x hx).1)
              have hown3 : w11.ownsRow vd.heap.size 3 1 (.slice (some ⟨gg, 0, none⟩) (l.length + 1) cap) (l ++ [y]).length (ints (l ++ [y])) := by rw [ints_app, ints_one1]; simpa using hown2
              clear hown hown' hown2 hgrow hat hlt2
              go_wp2_with fail
              go_roundw
              case rel => exact ⟨j + 1, l ++ [y], by omega, by go_num, hl', (by rw [List.length_append, List.length_singleton]; omega), hown3, hb11⟩
              case measure => simp [intOf] <;> omega
        · have dj : decide ((j : Int) < (qn : Int)) = false := by simp; omega
          have hjn : j = qn := by omega
          have hlf : l = without q x := by rw [hl.out, hjn, List.take_of_length_le (by rw [HQ.out]; exact Nat.le_refl _)]
          have hlb := hbe.out
          rw [← hlf] at hlb
          have hbb : ((l.length : Int) == (qn : Int)) = okq := by rw [← hlb, Bool.eq_iff_iff]; simp; omega
          have heq := Lib.hid (show (l2 == l) = true by rw [hl2.out, hlf]; simp)
          have ca := (ya.below hb ya.lt).cells
          have cb := (yb.below hb yb.lt).cells
          have cc := (yc.below hb yc.lt).cells
          have cd := (yd.below hb yd.lt).cells
          have sF := H1.out.step' hb
          have hfin := bd'.trans (hb.mono hwsd)
          obtain ⟨A1, c1, rfl, -, -, -⟩ := own_form hown
          have hL := Lib.hid hown
          have hlq : l.length ≤ 60 := by omega
          clear hown hl hlf hlb hjn ya yb yc yd H1 hsl bd'
          generalize hLn : l.length = L at *
          clear hLn
          go_wp2_with fail
          refine (bag_Items sF hn2).mono ?_
          rintro e w5 ⟨v, rfl, hv, hb5⟩
          obtain ⟨A5, c5, rfl, -, -, -⟩ := own_form hv
          have s5 := Sl.of_own hv
          have sL := Sl.of_own (own_step hL.out hb5)
          have hn2' : l2.length ≤ 100000 := by omega
          clear hv sF ca cb cc cd
          generalize l2.length = L2 at *
          go_wp2_with fail
          refine (ref_Ints _ _ _ _ _ _ _ _ s5 sL (Nat.le_refl _) hn2' (by omega)).mono ?_
          rintro e w6 ⟨rfl, hb6⟩
          rw [heq.out]
          go_wp2_with fail
          go_ret
          exact ⟨rfl, (hfin.trans (hb5.mono hfin.size)).trans (hb6.mono (by have := hfin.size; have := hb5.size; omega))⟩
  · -- a queue
    have hs1 : spDo 3 q ⟨4, x⟩ = q ++ [x] := by simp [spDo]
    go_wp2_with fail
    refine (spec_Do_is ⟨4, x⟩ ⟨0, true, 0⟩ (q ++ [x]) s4 (by have := HQ.out; omega) (fun h => by omega) (show mayP 3 4 x by unfold mayP; omega) rfl hs1).mono ?_
    rintro e wa ⟨rfl, sa, ka⟩
    have ba := h4.trans (ka.below hzw hws4)
    have oa : wa.ownsRow 0 3 1 (.slice A4 qn c4) qn (ints q) := own_kz ho4' ka hzq
    have hwsa : w.heap.size ≤ wa.heap.size := ba.size
    have hsla := Sl.of_own oa
    have hk0 : Below wa.heap.size wa (wa.alloc (.cells #[] 3)) := (Below.refl _ _).alloc (Nat.le_refl _) _
    have hz0 := own_zero wa 3 1 (base := wa.heap.size) (g := wa.heap.size) (Nat.le_refl _) rfl
    have hsl0 := hsla.step (Nat.le_refl _) hk0
    clear s4 ka ho4' h4 hzq hs1 oa hsla
    go_wp2_with (first
      | (at_builtin; refine wpList_append_sl _ rfl _ _ _ rfl wa.heap.size 3 iI _ 1 8 Try.underlying62 hiI zI sI bI rfl (by omega) (.slice (some ⟨wa.heap.size, 0, none⟩) 0 0) 0 [] rfl hz0 wa.heap.size A4 qn c4 (ints q) rfl hsl0 (ints_one q) (by unfold maxLen; omega) (by omega) (by simp) ?_; intro v1 w1' hown1 hg1 hat1; simp only [Nat.zero_add, List.nil_append] at hown1; obtain ⟨A6, c6, rfl, hc6, hn6, -⟩ := own_form hown1)
      | (at_builtin; refine wpList_append_lies _ rfl _ _ _ rfl wa.heap.size 3 iI _ 1 8 Try.underlying62 hiI zI sI bI rfl (by omega) (.slice A6 qn c6) qn (ints q) rfl (hown1.alloc (.cells #[.int .i64 x] 3)) ⟨w1'.heap.size, 0, none⟩ 1 1 [.int .i64 x] rfl rfl (World.news_of_block (heap_alloc_new w1' _)) (ints_one [x]) (by omega) (by unfold maxLen; omega) (by omega) (by have := hk0.size; have := hg1.size; simp at *; omega) (w1'.heap.size + 1) (by simp) ?_; intro gg cap Wl hown2 hgrow hat hlt2))
    have hown1' := hown1.alloc (.cells #[.int .i64 x] 3)
    have hk1 : Below wa.heap.size wa w1' := hk0.grown hg1 (by simp) (fun k hk => by simp [Value.ownBlock] at hk; omega)
    have hs1 := hk1.size
    clear hg1 hat1 hz0 hsl0 hk0
    have hkl : Below wa.heap.size wa Wl := (hk1.alloc hs1 (.cells #[.int .i64 x] 3)).grown hgrow (by simp; omega) (fun k hk => (own_at hown1' k hk).1)
    obtain ⟨Zl, tl, ml, ml'⟩ := sa.more hkl
    have hown3 : Wl.ownsRow wa.heap.size 3 1 (.slice (some ⟨gg, 0, none⟩) (qn + 1) cap) (qn + 1) (ints (q ++ [x])) := by rw [ints_app, ints_one1]; simpa using hown2
    have hzr : ∀ k, (Value.slice (some ⟨gg, 0, none⟩) (qn + 1) cap).ownBlock = some k → Zl k := fun k hk => by
      obtain ⟨h1, cs, h'⟩ := own_at hown3 k hk
      exact ml' k h1 h'.lt
    have hzl : ∀ k, k < w.heap.size → Zl k := fun k hk => ml k (hzw k hk)
    have bl := ba.trans (hkl.mono hwsa)
    have hwsl : w.heap.size ≤ Wl.heap.size := bl.size
    have hlen : (q ++ [x]).length = qn + 1 := by rw [List.length_append, HQ.out]; rfl
    have k0 : Kz Zl Wl Wl := Kz.refl _ _
    have t0 : SAt Wl Zl g 3 ((q ++ [x]).drop 0) := tl
    clear hown1 hown1' hown2 hgrow hat hlt2 hk1 hkl sa ml ml' ba hzw tl hs1
    generalize q ++ [x] = Q at *
    have HQL := Lib.hid hlen
    clear hlen
    go_wp2_with fail
    go_loopw [163] (fun i wr => ∃ j : Nat, j ≤ qn + 1 ∧ i = .int .i64 j ∧ SAt wr Zl g 3 (Q.drop j) ∧ Kz Zl Wl wr) (fun i _ => qn + 1 - (intOf i).toNat)
    case atStart => exact ⟨0, by omega, rfl, t0, k0⟩
    case round =>
      obtain ⟨j, hj, rfl, hsp, hk⟩ := hrel
      have hks := hk.size
      by_cases hjt : j < qn + 1
      · have dj : decide ((j : Int) < (qn : Int) + 1) = true := by simp; omega
        obtain ⟨y, hy⟩ : ∃ y, Q[j]? = some y := ⟨_, List.getElem?_eq_getElem (by rw [HQL.out]; exact hjt)⟩
        have hslw := Sl.of_own (own_kz hown3 hk hzr)
        have g1 := RowI.at_ hslw hjt hy
        have i1 := hslw.idx (P := Try.prog) (c := cap) Try.underlying62 intSz hjt
        simp only [Nat.mul_one] at g1 i1
        have hd : Q.drop j = y :: Q.drop (j + 1) := List.drop_eq_getElem?_toList_append.trans (by rw [hy]; rfl)
        have hdl : (Q.drop j).length ≤ 1000 := by rw [List.length_drop, HQL.out]; omega
        have htell : spTell (Q.drop j) ⟨5, 0⟩ = ⟨0, true, y⟩ := by rw [hd]; rfl
        have hdo : spDo 3 (Q.drop j) ⟨5, 0⟩ = Q.drop (j + 1) := by rw [hd]; rfl
        have HDO := Lib.hid hdo
        have HTE := Lib.hid htell
        clear hslw hy hd htell hdo
        go_wp2_with fail
        refine (spec_Do_is ⟨5, 0⟩ ⟨0, true, y⟩ (Q.drop (j + 1)) hsp hdl (fun h => by omega) (show mayP 3 5 0 by unfold mayP; omega) HTE.out HDO.out).mono ?_
        rintro e wd ⟨rfl, sd, kd⟩
        have kd' := hk.trans kd
        clear hsp hk kd g1 i1
        go_upto_region 33 with (fail)
        have pd : Below wd.heap.size wd (wd.alloc (.cells #[.int .i64 0, .bool true, .int .i64 y] 36)) := (Below.refl _ _).alloc (Nat.le_refl _) _
        have yd := Blk.new wd 36 #[.int .i64 0, .bool true, .int .i64 y]
        generalize (wd.alloc (.cells #[.int .i64 0, .bool true, .int .i64 y] 36)) = vd at *
        have td := sd.step' pd
        have kv := kd'.step pd
        have cy := yd.cells
        clear sd pd yd kd'
        go_wp2_with fail
        go_roundw
        case rel => exact ⟨j + 1, by omega, by go_num, td, kv⟩
        case measure => simp [intOf] <;> omega
      · have dj : decide ((j : Int) < (qn : Int) + 1) = false := by simp; omega
        have hd : Q.drop j = [] := List.drop_of_length_le (by rw [HQL.out]; omega)
        rw [hd] at hsp
        clear hd
        have bk := bl.trans (hk.below hzl hwsl)
        clear hk
        go_wp2_with fail
        refine (spec_Do_is ⟨5, 0⟩ ⟨0, false, 0⟩ [] hsp (by simp) (fun h => by omega) (show mayP 3 5 0 by unfold mayP; omega) rfl rfl).mono ?_
        rintro e wd ⟨rfl, sd, kd⟩
        have bd := bk.trans (kd.below hzl bk.size)
        clear hsp kd bk
        go_upto_region 37 with (fail)
        have pd : Below wd.heap.size wd (wd.alloc (.cells #[.int .i64 0, .bool false, .int .i64 0] 36)) := (Below.refl _ _).alloc (Nat.le_refl _) _
        have yd := Blk.new wd 36 #[.int .i64 0, .bool false, .int .i64 0]
        generalize (wd.alloc (.cells #[.int .i64 0, .bool false, .int .i64 0] 36)) = vd at *
        have td := sd.step' pd
        have bv := bd.trans (pd.mono bd.size)
        have cy := yd.cells
        clear sd pd yd bd
        go_wp2_with fail
        refine (bag_Len td).mono ?_
        rintro e w' ⟨rfl, rfl⟩
        go_wp2_with fail
        go_ret
        exact ⟨rfl, bv⟩
  · -- a stack
    have hs1 : spDo 4 q ⟨4, x⟩ = x :: q := by simp [spDo]
    have hs2 : spDo 4 (x :: q) ⟨5, 0⟩ = q := rfl
    go_wp2_with fail
    refine (spec_Do_is ⟨4, x⟩ ⟨0, true, 0⟩ (x :: q) s4 (by have := HQ.out; omega) (fun h => by omega) (show mayP 4 4 x by unfold mayP; omega) rfl hs1).mono ?_
    rintro e wa ⟨rfl, sa, ka⟩
    have ba := h4.trans (ka.below hzw hws4)
    have oa : wa.ownsRow 0 3 1 (.slice A4 qn c4) qn (ints q) := own_kz ho4' ka hzq
    have hwsa : w.heap.size ≤ wa.heap.size := ba.size
    clear s4 ka ho4' h4 hs1
    go_wp2_with fail
    refine (spec_Do_is ⟨5, 0⟩ ⟨0, true, x⟩ q sa (by simp; have := HQ.out; omega) (fun h => by omega) (show mayP 4 5 0 by unfold mayP; omega) rfl hs2).mono ?_
    rintro e wd ⟨rfl, sd, kd⟩
    have bd := ba.trans (kd.below hzw hwsa)
    have od : wd.ownsRow 0 3 1 (.slice A4 qn c4) qn (ints q) := own_kz oa kd hzq
    clear sa kd oa ba hs2
    go_upto_region 40 with (fail)
    have pd : Below wd.heap.size wd (wd.alloc (.cells #[.int .i64 0, .bool true, .int .i64 x] 36)) := (Below.refl _ _).alloc (Nat.le_refl _) _
    have yd := Blk.new wd 36 #[.int .i64 0, .bool true, .int .i64 x]
    generalize (wd.alloc (.cells #[.int .i64 0, .bool true, .int .i64 x] 36)) = vd at *
    have td := sd.step' pd
    have bv := bd.trans (pd.mono bd.size)
    have ov := own_step od pd
    have cy := yd.cells
    clear sd pd yd bd od
    go_wp2_with fail
    refine (bag_Items td (by have := HQ.out; omega)).mono ?_
    rintro e w5 ⟨v, rfl, hv, hb5⟩
    obtain ⟨A5, c5, rfl, -, -, -⟩ := own_form hv
    have s5 := Sl.of_own hv
    have sL := Sl.of_own (own_step ov hb5)
    have heq := Lib.hid (show (q == q) = true by simp)
    have hbf := bv.trans (hb5.mono bv.size)
    have hq1 : q.length ≤ 100000 := by have := HQ.out; omega
    clear hv ov td cy hb5 bv
    generalize q.length = L5 at *
    go_wp2_with fail
    refine (ref_Ints _ _ _ _ _ _ _ _ s5 sL (Nat.le_refl _) hq1 (by omega)).mono ?_
    rintro e w6 ⟨rfl, hb6⟩
    rw [heq.out]
    go_wp2_with fail
    go_ret
    exact ⟨rfl, hbf.trans (hb6.mono hbf.size)⟩
end Go.Proofs.Ytboommppikfgnaa
