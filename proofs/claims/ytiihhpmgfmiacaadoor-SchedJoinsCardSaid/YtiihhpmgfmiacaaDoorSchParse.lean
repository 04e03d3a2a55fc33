/- Contract of sched's Parse.
   Conditions: the cell of internal/bytealg.MaxLen holds an int; the text has at most 1000000 bytes. -/
import Derived.Test.YtiihhpmgfmiacaaDoorSchEnt
import Derived.Test.YtiihhpmgfmiacaaDoorApp
namespace Go.Proofs.YtiihhpmgfmiacaaDoor
open Go Go.RowKit

theorem info_Pick : (Tryd.prog.info? 33).map (fun i => (i.zero, i.size, i.bytes)) = some (some (.agg #[.int .i64 0, .int .i64 0]), 2, 16) := by kernel_rfl

theorem sch_split (s : ByteArray) (m : Int) (w : World) (hs : s.size < 4294967281) (hm : w.cell? ⟨0, 0, none⟩ = some (.int .i64 m)) :
    Calls Tryd.prog 23 #[.string s, .string ⟨#[32]⟩] w fun e w' => ∃ bs : List ByteArray, bs.map (·.data.toList) = words s.data.toList ∧ e = .returned (.slice (some ⟨w.heap.size, 0, none⟩) bs.length bs.length) ∧ w' = w.alloc (.cells (bs.map Value.string).toArray 9) := by
  refine (Tryd.strings_Split s ⟨#[32]⟩ m w hs hm (by decide)).mono ?_
  rintro e w' ⟨he, hw⟩
  refine ⟨Lib.splitB ⟨#[32]⟩ 0 (Lib.countB s ⟨#[32]⟩) s, ?_, ?_, hw⟩
  · rw [Lib.splitB_data]
    exact words_eq s.data.toList
  · rw [he, Lib.splitB_all ⟨#[32]⟩ (by decide) 0 _ s rfl]
theorem sch_entry_is (s : ByteArray) (th tm : Nat) (ok : Bool) (m : Int) (w : World) (h1 : entTh s.data.toList = th) (h2 : entTm s.data.toList = tm) (h3 : entOk s.data.toList = ok) (hs : s.size < 4294967281) (hm : w.cell? ⟨0, 0, none⟩ = some (.int .i64 m)) :
    Calls Tryd.prog 24 #[.string s] w fun e w' => e = .returned (.tuple #[.agg #[.int .i64 th, .int .i64 tm], .bool ok]) ∧ Below w.heap.size w w' := by
  subst h1 h2 h3
  exact sch_entry s m w hs hm

set_option maxRecDepth 100000 in
set_option maxHeartbeats 1600000 in
theorem sch_parse (s : ByteArray) (m : Int) (w : World) (hs : s.size ≤ 1000000) (hm : w.cell? ⟨0, 0, none⟩ = some (.int .i64 m)) :
    Calls Tryd.prog 11 #[.string s] w fun e w' => ∃ v, e = .returned (.tuple #[v, .int .i64 (badL (words s.data.toList))]) ∧ w'.ownsRow w.heap.size 33 2 v (picksL (words s.data.toList)).length ((picksL (words s.data.toList)).flatMap Pk.cells) ∧ Below w.heap.size w w' := by
  obtain ⟨iP, hiP, zP, sP, bP⟩ := info_parts info_Pick
  have hwl := words_len s.data.toList
  have hwm := words_many s.data.toList
  rw [← Lib.size_eq] at hwl hwm
  obtain ⟨ws, hws⟩ : ∃ ws, words s.data.toList = ws := ⟨_, rfl⟩
  rw [hws] at hwl hwm ⊢
  have HWS := Lib.hid hws
  clear hws
  have hs' : s.size < 4294967281 := by omega
  have HWL := Lib.hid hwl
  clear hwl
  go_enter Tryd.func11, Tryd.ntmps11
  go_wp2_with fail
  refine (sch_split s m w hs' hm).mono ?_
  rintro e w1 ⟨bs, hbs, rfl, hw1⟩
  have hx := Blk.new w 9 (bs.map Value.string).toArray
  have hb : Below w.heap.size w (w.alloc (.cells (bs.map Value.string).toArray 9)) := (Below.refl _ _).alloc (Nat.le_refl _) _
  rw [← hw1] at hx hb
  have hm1 := cell_keep hb hm
  have hlt := hx.lt
  rw [HWS.out] at hbs
  have hN : bs.length = ws.length := by rw [← hbs]; simp
  have HBS := Lib.hid hbs
  clear hw1 hm hs' hbs
  rw [hN]
  have HN := Lib.hid hN
  clear hN
  generalize hX : w.heap.size = X at *
  obtain ⟨n, hn⟩ : ∃ n, ws.length = n := ⟨_, rfl⟩
  rw [hn] at hwm ⊢
  have Hn := Lib.hid hn
  clear hn
  go_wp2_with fail
  go_loopw [4, 5, 13] (fun out bad i wr => ∃ k : Nat, k ≤ n ∧ i = .int .i64 k ∧ bad = .int .i64 (badL (ws.take k) : Nat) ∧ wr.ownsRow w1.heap.size 33 2 out (picksL (ws.take k)).length ((picksL (ws.take k)).flatMap Pk.cells) ∧ Below w1.heap.size w1 wr) (fun _ _ i _ => n - (intOf i).toNat)
  case atStart => exact ⟨0, by omega, rfl, rfl, World.ownsRow_nil _ _ _ _, Below.refl _ _⟩
  case round =>
    obtain ⟨k, hk, rfl, rfl, hown, hbr⟩ := hrel
    by_cases hlt' : k < n
    · have dk : decide ((k : Int) < (n : Int)) = true := by simp; omega
      obtain ⟨x, hxk⟩ : ∃ x, bs[k]? = some x := ⟨_, List.getElem?_eq_getElem (by rw [HN.out, Hn.out]; exact hlt')⟩
      have hwk : ws[k]? = some x.data.toList := by rw [← HBS.out, List.getElem?_map, hxk]; rfl
      have hxr := hx.below hbr hlt
      have hc : wr.cell? ⟨X, k, none⟩ = some (.string x) := by rw [hxr.cell k]; simp [hxk]
      have hlx : x.size < 4294967281 := by have := HWL.out _ (List.mem_of_getElem? hwk); rw [← Lib.size_eq] at this; omega
      have hbs' := hbr.size
      have hbad := badL_le (ws.take k)
      have hpk := picksL_le (ws.take k)
      rw [List.length_take] at hbad hpk
      have hP := Lib.hid (picksL_snoc ws k _ hwk)
      have hB := Lib.hid (badL_snoc ws k _ hwk)
      obtain ⟨ps, hps⟩ : ∃ ps, picksL (ws.take k) = ps := ⟨_, rfl⟩
      obtain ⟨nb, hnb⟩ : ∃ nb, badL (ws.take k) = nb := ⟨_, rfl⟩
      rw [hps] at hown hpk
      rw [hnb] at hbad ⊢
      have HPS := Lib.hid hps
      have HNB := Lib.hid hnb
      have hmr := cell_keep (w := w1) hbr hm1
      clear hxk hwk hps hnb hm1
      by_cases h0 : x = ⟨#[]⟩
      · subst h0
        have hP' : picksL (ws.take (k + 1)) = ps := by rw [hP.out, HPS.out]; simp
        have hB' : badL (ws.take (k + 1)) = nb := by rw [hB.out, HNB.out]; simp
        have HP' := Lib.hid hP'
        have HB' := Lib.hid hB'
        clear hP hB hP' hB'
        go_wp2_with fail
        go_roundw
        case rel => exact ⟨k + 1, by omega, by go_num, by rw [HB'.out], by rw [HP'.out]; exact hown, hbr⟩
        case measure => simp [intOf]; omega
      · have d0 : decide (x = ⟨#[]⟩) = false := by simpa using h0
        have he0 : x.data.toList.isEmpty = false := by
          cases hh : x.data.toList with
          | nil => exact absurd (by obtain ⟨⟨l⟩⟩ := x; simp at hh; subst hh; rfl) h0
          | cons _ _ => rfl
        have d1 : x.toList.isEmpty = false := by rw [Lib.toList_data]; exact he0
        obtain ⟨th, hth⟩ : ∃ th, entTh x.data.toList = th := ⟨_, rfl⟩
        obtain ⟨tm, htm⟩ : ∃ tm, entTm x.data.toList = tm := ⟨_, rfl⟩
        obtain ⟨ok, hok⟩ : ∃ ok, entOk x.data.toList = ok := ⟨_, rfl⟩
        have hpk' : entPk x.data.toList = ⟨th, tm⟩ := by unfold entPk; rw [hth, htm]
        have hP' : picksL (ws.take (k + 1)) = ps ++ if ok then [⟨th, tm⟩] else [] := by rw [hP.out, HPS.out, he0, hok, hpk']; rfl
        have hB' : badL (ws.take (k + 1)) = nb + if ok then 0 else 1 := by rw [hB.out, HNB.out, he0, hok]; cases ok <;> rfl
        have hent := sch_entry_is x th tm ok m wr hth htm hok hlx hmr
        have HE := Lib.hid hent
        clear hent hth htm hok hpk' hP hB he0 h0 hmr
        have HP' := Lib.hid hP'
        have HB' := Lib.hid hB'
        clear hP' hB'
        go_wp2_with fail
        refine HE.out.mono ?_
        rintro e w2 ⟨rfl, hb2⟩
        have hs2 := hb2.size
        have hown2 := own_step hown hb2
        clear hc hown HE
        cases ok
        · have HP'' : Hid (picksL (ws.take (k + 1)) = ps) := by have := HP'.out; simp at this; exact this
          have HB'' : Hid (badL (ws.take (k + 1)) = nb + 1) := HB'.out
          clear HP' HB'
          go_wp2_with fail
          go_roundw
          case rel => exact ⟨k + 1, by omega, by go_num, by rw [HB''.out]; go_num, by rw [HP''.out]; exact hown2.alloc _, (hbr.trans (hb2.mono hbs')).alloc (by omega) _⟩
          case measure => simp [intOf]; omega
        · have HP'' : Hid (picksL (ws.take (k + 1)) = ps ++ [⟨th, tm⟩]) := HP'.out
          have HB'' : Hid (badL (ws.take (k + 1)) = nb) := HB'.out
          clear HP' HB'
          go_upto_region 9 with (fail)
          have hp := Blk.new w2 33 #[.int .i64 th, .int .i64 tm]
          have hb3 : Below w1.heap.size w1 (w2.alloc (.cells #[.int .i64 th, .int .i64 tm] 33)) := (hbr.trans (hb2.mono hbs')).alloc (by omega) _
          have hown3 := hown2.alloc (.cells #[.int .i64 th, .int .i64 tm] 33)
          have hsz := hb3.size
          clear hown2 hb2 hbr
          generalize (w2.alloc (.cells #[.int .i64 th, .int .i64 tm] 33)) = w3 at *
          have hc3 := hp.cells
          have hown4 := hown3.alloc (.cells #[.int .i64 th, .int .i64 tm] 33)
          go_wp2_with (at_builtin; refine wpList_append_lies _ rfl _ _ _ rfl w1.heap.size 33 iP _ 2 16 Tryd.underlying23 hiP zP sP bP rfl (by omega) _ ps.length (ps.flatMap Pk.cells) rfl hown4 ⟨w3.heap.size, 0, none⟩ 1 1 (Pk.cells ⟨th, tm⟩) rfl rfl (World.news_of_block (heap_alloc_new w3 _)) (Pk.cells_one _) (by omega) (by unfold maxLen; omega) (by omega) (by simp; omega) (w3.heap.size + 1) (by simp) ?_; intro g cap w9 hown9 hgrow hat hlt9)
          have hgrow' : (w3.alloc (.cells #[.int .i64 th, .int .i64 tm] 33)).grownBy w9 (Value.ownBlock u4) := hgrow
          clear hgrow hat
          go_roundw
          case rel =>
            refine ⟨k + 1, by omega, by go_num, by rw [HB''.out], ?_, ?_⟩
            · rw [HP''.out]; simpa using hown9
            · exact (hb3.alloc (by omega) _).grown hgrow' (by simp; omega) (fun g0 h0 => (own_at hown3 g0 h0).1)
          case measure => simp [intOf]; omega
    · have dk : decide ((k : Int) < (n : Int)) = false := by simp; omega
      have hk' : ws.take k = ws := List.take_of_length_le (by rw [Hn.out]; omega)
      rw [hk'] at hown ⊢
      go_wp2_with fail
      go_ret2
      exact ⟨_, rfl, own_mono hown (by omega), (hX ▸ hb).trans (hbr.mono (by omega))⟩
end Go.Proofs.YtiihhpmgfmiacaaDoor
