/- Contract of the document's Parse (layer 20).
   Conditions: the text has at most 1000000 bytes. -/
import Derived.Test.YtiihhpmgfmiacaaDoorSchRefE
import Derived.Test.YtiihhpmgfmiacaaDoorApp
namespace Go.Proofs.YtiihhpmgfmiacaaDoor
open Go Go.RowKit

theorem info_RPick : (Tryd.prog.info? 34).map (fun i => (i.zero, i.size, i.bytes)) = some (some (.agg #[.int .i64 0, .int .i64 0]), 2, 16) := by kernel_rfl

theorem words_stop : ∀ (m : Nat) (l : List UInt8), (∀ j, j < m → l[j]? ≠ some 32) → l[m]? = some 32 → words l = l.take m :: words (l.drop (m + 1))
  | 0, c :: l, _, h => by
    have : c = 32 := by simpa using h
    simp [words, this]
  | m + 1, c :: l, hno, h => by
    have hc : ¬ c = 32 := by have := hno 0 (by omega); simpa using this
    have ih := words_stop m l (fun j hj => by have := hno (j + 1) (by omega); simpa using this) (by simpa using h)
    simp only [words, if_neg hc]
    rw [ih]
    simp
  | 0, [], _, h => by simp at h
  | m + 1, [], _, h => by simp at h
theorem words_one : ∀ (l : List UInt8), (∀ j, j < l.length → l[j]? ≠ some 32) → words l = [l]
  | [], _ => rfl
  | c :: l, hno => by
    have hc : ¬ c = 32 := by have := hno 0 (by simp); simpa using this
    have ih := words_one l (fun j hj => by have := hno (j + 1) (by simp; omega); simpa using this)
    simp only [words, if_neg hc]
    rw [ih]
/-- what has been read when the reading stands at k, the word in hand beginning at f -/
structure Rd (l : List UInt8) (f k : Nat) (done : List (List UInt8)) : Prop where
  le : f ≤ k
  few : done.length ≤ k
  rest : k ≤ l.length → words l = done ++ words (l.drop f)
  all : k = l.length + 1 → words l = done
  no : ∀ j, f ≤ j → j < k → l[j]? ≠ some 32
theorem Rd.start (l : List UInt8) : Rd l 0 0 [] := ⟨by omega, by simp, fun _ => by simp, fun h => by omega, fun j _ h => by omega⟩
theorem Rd.on {l : List UInt8} {f k : Nat} {done : List (List UInt8)} (h : Rd l f k done) (hk : k < l.length) (hc : l[k]? ≠ some 32) : Rd l f (k + 1) done :=
  ⟨by have := h.le; omega, by have := h.few; omega, fun _ => h.rest (by omega), fun e => by omega, fun j h1 h2 => by
    by_cases hj : j = k
    · subst hj; exact hc
    · exact h.no j h1 (by omega)⟩
theorem Rd.word {l : List UInt8} {f k : Nat} {done : List (List UInt8)} (h : Rd l f k done) (hk : k ≤ l.length) (hc : k = l.length ∨ l[k]? = some 32) : Rd l (k + 1) (k + 1) (done ++ [(l.drop f).take (k - f)]) := by
  have hle := h.le
  have hr := h.rest hk
  have hno : ∀ j, j < k - f → (l.drop f)[j]? ≠ some 32 := fun j hj => by rw [List.getElem?_drop]; exact h.no _ (by omega) (by omega)
  refine ⟨by omega, by have := h.few; simp; omega, fun hk' => ?_, fun e => ?_, fun j h1 h2 => by omega⟩
  · have hc' : l[k]? = some 32 := by rcases hc with hc | hc; (· omega); exact hc
    rw [hr, words_stop (k - f) (l.drop f) hno (by rw [List.getElem?_drop, show f + (k - f) = k by omega]; exact hc')]
    rw [List.drop_drop, show f + (k - f + 1) = k + 1 by omega]
    simp
  · have e' : k - f = (l.drop f).length := by rw [List.length_drop]; omega
    rw [hr, words_one (l.drop f) (fun j hj => hno j (by omega)), e', List.take_length]
theorem picksL_one (ws : List (List UInt8)) (x : List UInt8) : picksL (ws ++ [x]) = picksL ws ++ if !x.isEmpty && entOk x then [entPk x] else [] := by
  rw [picksL_app]; congr 1
  simp only [picksL, List.filter_cons, List.filter_nil]
  split <;> rfl
theorem badL_one (ws : List (List UInt8)) (x : List UInt8) : badL (ws ++ [x]) = badL ws + if !x.isEmpty && !entOk x then 1 else 0 := by
  rw [badL_app]; congr 1
  simp only [badL, List.filter_cons, List.filter_nil]
  split <;> rfl
theorem ref_entry_is (s : ByteArray) (l : List UInt8) (ok : Bool) (w : World) (hl : s.data.toList = l) (hok : entOk l = ok) (hs : s.size ≤ 1000000) : Calls Tryd.prog 25 #[.string s] w fun e w' => ∃ x y : Int, e = .returned (.tuple #[.agg #[.int .i64 x, .int .i64 y], .bool ok]) ∧ (ok = true → entPk l = ⟨x, y⟩) ∧ Below w.heap.size w w' := by
  subst hl hok
  refine (ref_entry s w hs).mono ?_
  rintro e w' ⟨x, y, he, hv, hb⟩
  exact ⟨x, y, he, fun h => by obtain ⟨h1, h2⟩ := hv h; unfold entPk; rw [h1, h2], hb⟩

set_option maxRecDepth 100000 in
set_option maxHeartbeats 1600000 in
theorem ref_parse (s : ByteArray) (w : World) (hs : s.size ≤ 1000000) :
    Calls Tryd.prog 12 #[.string s] w fun e w' => ∃ v, e = .returned (.tuple #[v, .int .i64 (badL (words s.data.toList))]) ∧ w'.ownsRow w.heap.size 34 2 v (picksL (words s.data.toList)).length ((picksL (words s.data.toList)).flatMap Pk.cells) ∧ Below w.heap.size w w' := by
  obtain ⟨iP, hiP, zP, sP, bP⟩ := info_parts info_RPick
  have HL : Hid (s.size = s.data.toList.length) := Lib.size_eq s
  go_enter Tryd.func12, Tryd.ntmps12
  go_wp2_with fail
  go_loopw [4, 5, 6, 7] (fun out bad fr i wr => ∃ (f k : Nat) (done : List (List UInt8)), k ≤ s.size + 1 ∧ Rd s.data.toList f k done ∧ i = .int .i64 k ∧ fr = .int .i64 f ∧ bad = .int .i64 (badL done : Nat) ∧ wr.ownsRow w.heap.size 34 2 out (picksL done).length ((picksL done).flatMap Pk.cells) ∧ Below w.heap.size w wr) (fun _ _ _ i _ => s.size + 1 - (intOf i).toNat)
  case atStart => exact ⟨0, 0, [], by omega, Rd.start _, rfl, rfl, rfl, World.ownsRow_nil _ _ _ _, Below.refl _ _⟩
  case round =>
    obtain ⟨f, k, done, hk, hrd, rfl, rfl, rfl, hown, hbr⟩ := hrel
    by_cases hlt : k ≤ s.size
    · have dl : decide ((k : Int) ≤ (s.size : Int)) = true := by simp; omega
      have hle := hrd.le
      have hfew := hrd.few
      have hpk := picksL_le done
      have hbad := badL_le done
      have hbs := hbr.size
      by_cases hA : k < s.size ∧ s.data.toList[k]? ≠ some 32
      · obtain ⟨h, hne⟩ := hA
        have hc : s.data.toList[k]? = some s[k] := by
          have hlt : k < s.data.size := h
          rw [Array.getElem?_toList, Array.getElem?_eq_getElem hlt]
          rfl
        have dk : decide ((k : Int) < (s.size : Int)) = true := by simp; omega
        have d32 : ((s[k].toNat : Int) == 32) = false := by
          rw [beq_eq_false_iff_ne]
          intro e
          apply hne
          rw [hc]
          congr 1
          apply UInt8.toNat_inj.1
          show s[k].toNat = 32
          omega
        have hrd' := Lib.hid (hrd.on (by have := HL.out; omega) hne)
        clear hne hc hrd
        go_wp2_with fail
        exact ⟨⟨f, k + 1, done, by omega, hrd'.out, by go_num, rfl, rfl, hown, hbr⟩, by simp [intOf] <;> omega⟩
      · have hterm : k = s.data.toList.length ∨ s.data.toList[k]? = some 32 := by
          by_cases h : k < s.size
          · right; exact Classical.byContradiction fun hne => hA ⟨h, hne⟩
          · left; have := HL.out; omega
        have hrd' := Lib.hid (hrd.word (by have := HL.out; omega) hterm)
        obtain ⟨x, hx⟩ : ∃ x, (s.data.toList.drop f).take (k - f) = x := ⟨_, rfl⟩
        rw [hx] at hrd'
        have hxl : x.length = k - f := by rw [← hx, List.length_take, List.length_drop, ← HL.out]; omega
        have hP := Lib.hid (picksL_one done x)
        have hB := Lib.hid (badL_one done x)
        have hsx : (s.extract f k).data.toList = x := by rw [Lib.extract_data]; exact hx
        have hsl : (s.extract f k).size ≤ 1000000 := by rw [Lib.size_eq, hsx, hxl]; omega
        obtain ⟨ps, hps⟩ : ∃ ps, picksL done = ps := ⟨_, rfl⟩
        obtain ⟨nb, hnb⟩ : ∃ nb, badL done = nb := ⟨_, rfl⟩
        rw [hps] at hown hpk hP
        rw [hnb] at hbad hB ⊢
        have hkl : k = s.size ∨ ∃ h : k < s.size, ((s[k].toNat : Int) == 32) = true := by
          by_cases h : k < s.size
          · right
            refine ⟨h, ?_⟩
            have hlt : k < s.data.size := h
            have hc : s.data.toList[k]? = some s[k] := by
              rw [Array.getElem?_toList, Array.getElem?_eq_getElem hlt]
              rfl
            rcases hterm with ht | ht
            · have := HL.out; omega
            · rw [hc] at ht
              have h2 : s[k] = 32 := Option.some.inj ht
              rw [h2]; rfl
          · left; omega
        have hdk : (¬ k < s.size) ∨ (∃ h : k < s.size, ((s[k].toNat : Int) != 32) = false) := by
          rcases hkl with h | ⟨h, h'⟩
          · left; omega
          · right; exact ⟨h, by rw [bne, h']; rfl⟩
        have hent := fun (ok : Bool) (hok : entOk x = ok) (W : World) => ref_entry_is (s.extract f k) x ok W hsx hok hsl
        clear hA hkl hterm hrd hx hsx hps hnb hsl
        by_cases hfk : f < k
        · have dfk : decide ((f : Int) < (k : Int)) = true := by simp; omega
          have hxe : x.isEmpty = false := by cases x with
            | nil => simp at hxl; omega
            | cons _ _ => rfl
          obtain ⟨ok, hok⟩ : ∃ ok, entOk x = ok := ⟨_, rfl⟩
          have HE := Lib.hid (hent ok hok)
          have hP' : picksL (done ++ [x]) = ps ++ if ok then [entPk x] else [] := by rw [hP.out, hxe, hok]; rfl
          have hB' : badL (done ++ [x]) = nb + if ok then 0 else 1 := by rw [hB.out, hxe, hok]; cases ok <;> rfl
          have HP' := Lib.hid hP'
          have HB' := Lib.hid hB'
          clear hent hP hB hP' hB' hok hxe hxl
          rcases hdk with dk | ⟨h, d32⟩
          all_goals
            go_wp2_with fail
            refine (HE.out _).mono ?_
            rintro e w2 ⟨px, py, rfl, hpv, hb2⟩
            have hs2 := hb2.size
            have hown2 := own_step hown hb2
            clear hown HE
            cases ok
            · have HP'' : Hid (picksL (done ++ [x]) = ps) := by have := HP'.out; simp at this; exact this
              have HB'' : Hid (badL (done ++ [x]) = nb + 1) := HB'.out
              clear HP' HB' hpv
              go_wp2_with fail
              refine ⟨⟨k + 1, k + 1, done ++ [x], by omega, hrd'.out, by go_num, by go_num, by rw [HB''.out]; go_num, by rw [HP''.out]; exact hown2.alloc _, (hbr.trans (hb2.mono hbs)).alloc (by omega) _⟩, by simp [intOf] <;> omega⟩
            · have HP'' : Hid (picksL (done ++ [x]) = ps ++ [⟨px, py⟩]) := by show picksL _ = _; rw [HP'.out, if_pos rfl, hpv rfl]
              have HB'' : Hid (badL (done ++ [x]) = nb) := HB'.out
              clear HP' HB' hpv
              go_upto_region 11 with (fail)
              have hp := Blk.new w2 34 #[.int .i64 px, .int .i64 py]
              have hb3 : Below w.heap.size w (w2.alloc (.cells #[.int .i64 px, .int .i64 py] 34)) := (hbr.trans (hb2.mono hbs)).alloc (by omega) _
              have hown3 := hown2.alloc (.cells #[.int .i64 px, .int .i64 py] 34)
              have hsz := hb3.size
              clear hown2 hb2 hbr
              generalize (w2.alloc (.cells #[.int .i64 px, .int .i64 py] 34)) = w3 at *
              have hc3 := hp.cells
              have hown4 := hown3.alloc (.cells #[.int .i64 px, .int .i64 py] 34)
              go_wp2_with (at_builtin; refine wpList_append_lies _ rfl _ _ _ rfl w.heap.size 34 iP _ 2 16 Tryd.underlying26 hiP zP sP bP rfl (by omega) _ ps.length (ps.flatMap Pk.cells) rfl hown4 ⟨w3.heap.size, 0, none⟩ 1 1 (Pk.cells ⟨px, py⟩) rfl rfl (World.news_of_block (heap_alloc_new w3 _)) (Pk.cells_one _) (by omega) (by unfold maxLen; omega) (by omega) (by simp; omega) (w3.heap.size + 1) (by simp) ?_; intro g cap w9 hown9 hgrow hat hlt9)
              have hgrow' : (w3.alloc (.cells #[.int .i64 px, .int .i64 py] 34)).grownBy w9 (Value.ownBlock u4) := hgrow
              clear hgrow hat
              refine ⟨⟨k + 1, k + 1, done ++ [x], by omega, hrd'.out, by go_num, by go_num, by rw [HB''.out], ?_, ?_⟩, by simp [intOf] <;> omega⟩
              · rw [HP''.out]; simpa using hown9
              · exact (hb3.alloc (by omega) _).grown hgrow' (by simp; omega) (fun g0 h0 => (own_at hown3 g0 h0).1)
        · have dfk : decide ((f : Int) < (k : Int)) = false := by simp; omega
          have hx0 : x = [] := List.eq_nil_of_length_eq_zero (by omega)
          subst hx0
          have HP'' : Hid (picksL (done ++ [[]]) = ps) := by show picksL _ = _; rw [hP.out]; simp
          have HB'' : Hid (badL (done ++ [[]]) = nb) := by show badL _ = _; rw [hB.out]; simp
          clear hent hP hB hxl
          rcases hdk with dk | ⟨h, d32⟩
          all_goals
            go_wp2_with fail
            exact ⟨⟨k + 1, k + 1, done ++ [[]], by omega, hrd'.out, by go_num, by go_num, by rw [HB''.out], by rw [HP''.out]; exact hown, hbr⟩, by simp [intOf] <;> omega⟩
    · have dl : decide ((k : Int) ≤ (s.size : Int)) = false := by simp; omega
      have hall := hrd.all (by have := HL.out; omega)
      have HA := Lib.hid hall
      clear hall hrd
      go_wp2_with fail
      go_ret2
      exact ⟨_, by rw [HA.out]; rfl, by rw [HA.out]; exact hown, hbr⟩
end Go.Proofs.YtiihhpmgfmiacaaDoor
