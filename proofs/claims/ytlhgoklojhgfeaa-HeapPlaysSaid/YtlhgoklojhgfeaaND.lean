/- The walk of HeapRemoves: it returns true whatever the items and the key.
   Conditions: none. -/
import Derived.Test.YtlhgoklojhgfeaaR
namespace Go.Proofs.Ytlhgoklojhgfeaa
open Go.RowKit Go.HeapW Go.HeapP
set_option linter.unusedSimpArgs false
set_option linter.unusedVariables false

def remM (key k n : Int) : Bool := decide (key ≤ k) && (n.tmod 2 == 0)

theorem remM_any (key k n : Int) (kb : Nat) (w : World) (hk : w.heap[kb]? = some (.cells #[.int .i64 key] 3 (0, 0))) :
    Calls Try.prog 35 #[.agg #[.int .i64 k, .int .i64 n], .pointer (some ⟨kb, 0, none⟩)] w fun e w' => e = .returned (.bool (remM key k n)) ∧ Below w.heap.size w w' := by
  have h0 : w.cell? ⟨kb, 0, none⟩ = some (.int .i64 key) := (cell_of_blk hk 0).trans rfl
  have hl := lt_of_block hk
  have hB := Lib.hid ((Below.refl w.heap.size w).alloc (Nat.le_refl _) (.cells #[.int .i64 k, .int .i64 n] 26))
  clear hk
  by_cases h1 : key ≤ k
  · have hd : decide (key ≤ k) = true := decide_eq_true h1
    have hM : remM key k n = (n.tmod 2 == 0) := by simp [remM, h1]
    have HM := Lib.hid hM
    clear hM h1
    go_enter Try.func35, Try.ntmps35
    go_wp2
    all_goals go_ret
    all_goals exact ⟨by rw [HM.out]; rfl, hB.out⟩
  · have hd : decide (key ≤ k) = false := decide_eq_false h1
    have hM : remM key k n = false := by simp [remM, h1]
    have HM := Lib.hid hM
    clear hM h1
    go_enter Try.func35, Try.ntmps35
    go_wp2
    all_goals go_ret
    all_goals exact ⟨by rw [HM.out]; rfl, hB.out⟩

theorem callFunc35 (args : Array Value) (w : World) : Sem.run Try.prog (callFunc 35 args) w = .ok (.enter 35 args) w := by kernel_rfl
theorem mat_rem {w : World} {kb : Nat} {key : Int} (hk : w.heap[kb]? = some (.cells #[.int .i64 key] 3 (0, 0))) : Mat w 35 kb (remM key) :=
  ⟨callFunc35, fun k n wr hb => remM_any key k n kb wr ((hb.block kb (lt_of_block hk)).trans hk)⟩

theorem kept_srt {σ : Int → Int} {M : Int → Int → Bool} {o : List It} (h : Srt σ o) : Srt σ (kept M o) := List.Pairwise.sublist (kept_sub M o) h

def RemRel (w : World) (M : Int → Int → Bool) (o : List It) (s c : Value) (wr : World) : Prop :=
  ∃ i : Nat, c = .int .i64 i ∧ i ≤ o.length ∧ IRow wr w.heap.size s ((kept M (o.take i)).map It.im) ∧ Below w.heap.size w wr

set_option maxHeartbeats 4000000 in
set_option maxRecDepth 100000 in
theorem removes_walk (a : Option Addr) (cap : Nat) (m : List Im) (key : Int) (w : World) (hI : Its w (.slice a m.length cap) m) (hbig : m.length ≤ 9223372036854775807) :
    Calls Try.prog 9 #[.slice a m.length cap, .int .i64 key] w fun e w' => e = .returned (.bool true) ∧ Below w.heap.size w w' := by
  obtain ⟨i0, hi0, hz0, hz1, hz2⟩ := info_parts info26
  have HW := Lib.hid (awake_any (w.alloc (.cells #[.int .i64 key] 3)))
  have hmx : (m.length : Int) ≤ 9223372036854775807 := by omega
  have HI := Lib.hid (hI.below ((Below.refl _ w).alloc (Nat.le_refl _) (.cells #[.int .i64 key] 3)))
  have HK := Lib.hid (alloc_new w (.cells #[.int .i64 key] 3))
  have HB0 := Lib.hid ((Below.refl _ w).alloc (Nat.le_refl _) (.cells #[.int .i64 key] 3))
  clear hI hbig
  by_cases hlen : m.length ≤ 300
  · have hl : (m.length : Int) ≤ 300 := by omega
    have hld : decide ((300 : Int) < (m.length : Int)) = false := decide_eq_false (by omega)
    clear hmx
    go_enter Try.func9, Try.ntmps9
    go_wp2_with (first | (go_at_call 11; ((with_reducible refine (HW.out).mono ?_); rintro e w1 ⟨rfl, hb⟩; have HB := Lib.hid hb; clear hb)) | (go_at_call 13; fail))
    have HI1 := Lib.hid (HI.out.below HB.out)
    have HK1 := Lib.hid ((Fr.of_below (S := fun _ => False) HB.out).keep HK.out (fun h => h))
    have HB1 := Lib.hid (HB0.out.trans (HB.out.mono HB0.out.size))
    refine (pushed_any _ m w1 HI1.out (by omega)).mono ?_
    rintro e w2 ⟨rfl, va, hha, _, hga, hb2⟩
    have HA := Lib.hid hha
    have HGA := Lib.hid hga
    have HB2 := Lib.hid hb2
    clear hha hga hb2
    go_wp2_with fail
    refine (pushed_any _ m w2 (HI1.out.below HB2.out) (by omega)).mono ?_
    rintro e w3 ⟨rfl, vb, hhb, _, hgb, hb3⟩
    have HBB := Lib.hid hhb
    have HGB := Lib.hid hgb
    have HB3 := Lib.hid hb3
    clear hhb hgb hb3
    have hK3 := (Fr.of_below (S := fun _ => False) HB3.out).keep ((Fr.of_below (S := fun _ => False) HB2.out).keep HK1.out (fun h => h)) (fun h => h)
    have HA3 := Lib.hid (HA.out.below HB3.out)
    have HK3 := Lib.hid hK3
    have HRM := Lib.hid (remove_l cmp_byKey HA3.out (by rw [numb_length]; omega) (by have := HB2.out.size; have := HB3.out.size; omega) (mat_rem hK3))
    clear hK3
    go_wp2_with fail
    refine (HRM.out).mono ?_
    rintro e w4 ⟨he, va', hha', howna, hfra⟩
    have hkl : (kept (remM key) (numb m)).length ≤ m.length := by have := kept_le (remM key) (numb m); rw [numb_length] at this; exact this
    obtain ⟨kl, hkle⟩ : ∃ kl, (kept (remM key) (numb m)).length = kl := ⟨_, rfl⟩
    rw [hkle, numb_length] at he
    rw [hkle] at hkl
    subst he
    have HKLE := Lib.hid hkle
    have HA4 := Lib.hid hha'
    have HOWNA := Lib.hid howna
    have HFRA := Lib.hid hfra
    have hkli : (kl : Int) ≤ (m.length : Int) := by omega
    clear hkle hha' howna hfra hkl
    have hz12 : w1.heap.size < w2.heap.size := HA.out.lt
    have hz23 : w2.heap.size < w3.heap.size := HBB.out.lt
    have hz34 : w3.heap.size ≤ w4.heap.size := HFRA.out.size
    have HB4 := Lib.hid (HBB.out.keep HFRA.out (fun h => by
        rcases h with h | h
        · omega
        · have := (HA.out.row _ h).2; omega) (fun g hg h => by
        have h1 := HGB.out g hg
        rcases h with h | h
        · omega
        · have := (HA.out.row _ h).2; omega))
    have HK4 := Lib.hid (HFRA.out.keep HK3.out (HA3.out.off HK3.out (by decide) (by decide)))
    have HPB := Lib.hid (popped_any cmp_byKey HB4.out (by rw [numb_length]; omega) (by omega))
    clear hz12 hz23 hz34
    go_wp2_with fail
    refine (HPB.out).mono ?_
    rintro e w5 ⟨so, o, rfl, hsrt, hperm, hro, vb', _, _, hfrb⟩
    obtain ⟨ao, co, hso⟩ := irow_shape hro
    have hol : (o.map It.im).length = m.length := by rw [List.length_map, hperm.length_eq, numb_length]
    rw [hol] at hso
    subst hso
    have HFRB := Lib.hid hfrb
    have HS := Lib.hid hsrt
    have HP := Lib.hid hperm
    have HRO := Lib.hid hro
    have HOL := Lib.hid hol
    clear hsrt hperm hro hfrb hol
    have HK5 := Lib.hid (HFRB.out.keep HK4.out (HB4.out.off HK4.out (by decide) (by decide)))
    have HA5 : Hid (Heap w5 w1.heap.size w1.heap.size 23 (fun k => k) va' (kept (remM key) (numb m)) m.length) := by
      have hz12 : w1.heap.size < w2.heap.size := HA.out.lt
      have hz23 : w2.heap.size < w3.heap.size := HBB.out.lt
      refine HA4.out.keep HFRB.out (fun h => ?_) (fun g hg h => ?_)
      · rcases h with h | h
        · omega
        · have := HGB.out _ h; omega
      · have h3 : g < w2.heap.size ∨ w3.heap.size ≤ g := by
          rcases HOWNA.out g hg with h1 | h1
          · exact Or.inl (HA.out.row g h1).2
          · exact Or.inr h1
        rcases h with h | h
        · omega
        · have h1 := HGB.out _ h
          have h2 := (HBB.out.row g h).2
          omega
    have HB5 : Hid (Below w.heap.size w w5) := by
      have b3 : Below w.heap.size w w3 := (HB1.out.trans (HB2.out.mono HB1.out.size)).trans (HB3.out.mono (by have := HB1.out.size; have := HB2.out.size; omega))
      have z1 := HB1.out.size
      have z2 := HB2.out.size
      have b4 : Below w.heap.size w w4 := b3.trans (HFRA.out.below b3.size (fun k hk h => by
        rcases h with h | h
        · omega
        · have := HGA.out _ h; omega))
      exact b4.trans (HFRB.out.below b4.size (fun k hk h => by
        rcases h with h | h
        · omega
        · have := HGB.out _ h; omega))
    go_wp2_with fail
    go_loopw [8, 26] (fun s c wr => RemRel w5 (remM key) o s c wr) (fun _ c _ => m.length - (intOf c).toNat)
    case atStart => exact ⟨0, rfl, Nat.zero_le _, irow_nil _ _, Below.refl _ _⟩
    case round =>
      obtain ⟨i, rfl, hi, hrow, hbe⟩ := hrel
      have HROW := Lib.hid hrow
      have HBE := Lib.hid hbe
      have hi' : i ≤ m.length := by have := HOL.out; rw [List.length_map] at this; omega
      clear hrow hbe hi
      by_cases hlt : i < m.length
      · obtain ⟨x, hx⟩ : ∃ x, o[i]? = some x := ⟨_, List.getElem?_eq_getElem (by have := HOL.out; rw [List.length_map] at this; omega)⟩
        obtain ⟨b, off, hb0, c0, c1⟩ := its_cells HRO.out.its HBE.out (show (o.map It.im)[i]? = some x.im by simp [hx])
        subst hb0
        simp only [It.im] at c0 c1
        have hil : (i : Int) < (m.length : Int) := by omega
        have hin0 : (0 : Int) ≤ (i : Int) := by omega
        have hbl' : b < wr.heap.size := World.block_lt_of_cell? wr _ c0
        have kc : wr.cell? ⟨w.heap.size, 0, none⟩ = some (.int .i64 key) := (cell_of_blk ((Fr.of_below (S := fun _ => False) HBE.out).keep HK5.out (fun h => h)) 0).trans rfl
        have kl' : w.heap.size < wr.heap.size := World.block_lt_of_cell? wr _ kc
        have HX := Lib.hid hx
        have hml : ((kept (remM key) (o.take i)).map It.im).length ≤ i := by
          rw [List.length_map]
          have := kept_le (remM key) (o.take i)
          rw [List.length_take] at this
          omega
        have HML := Lib.hid hml
        clear hx hml hi'
        by_cases h1 : x.k < key
        · have hd : decide (x.k < key) = true := decide_eq_true h1
          have hMx : remM key x.k x.n = false := by simp [remM]; omega
          clear h1
          have hsn := kept_no (xs := o.take i) hMx
          rw [← take_snoc' HX.out] at hsn
          have HSN := Lib.hid hsn
          clear hsn hMx
          go_wp2_with (at_builtin; go_must (refine wpList_append_lies _ rfl (.tmp 40) (.tmp 42) 24 rfl w5.heap.size 26 i0 _ 2 16 Try.underlying24 hi0 hz0 hz1 hz2 rfl (by omega) _ ((kept (remM key) (o.take i)).map It.im).length (flat pk ((kept (remM key) (o.take i)).map It.im)) rfl ((HROW.out.alloc _).alloc _) ⟨wr.heap.size + 1, 0, none⟩ 1 1 (pk (x.k, x.n)) rfl rfl ?c1a ?c2a (by omega) ?c3a ?c4a ?c5a (wr.heap.size + 2) ?c6a ?_))
          case c1a => exact World.news_of_block (cs := #[.int .i64 x.k, .int .i64 x.n]) (t := 26) (fr := (0, 0)) (blk2 _ _ _)
          case c2a => simp [Value.oneCell', pk]
          case c3a => unfold maxLen; have := HML.out; omega
          case c4a => have := HML.out; omega
          case c5a => have := HBE.out.size; rw [size2]; omega
          case c6a => exact size2 _ _ _
          intro gg cc w6 hro6 hgr6 hat6 hlt6
          have HRO6 := Lib.hid hro6
          have HGR6 := Lib.hid hgr6
          clear hro6 hgr6 hat6 hlt6
          go_wp2_with fail
          go_roundw
          case rel =>
            refine ⟨i + 1, by go_num, by have := HOL.out; rw [List.length_map] at this; omega, ?_, ?_⟩
            · have e : (kept (remM key) (o.take (i + 1))).map It.im = (kept (remM key) (o.take i)).map It.im ++ [(x.k, x.n)] := by rw [HSN.out]; simp [It.im]
              rw [e]
              have hro6 := HRO6.out
              simp only [IRow, flat_snoc, List.length_append, List.length_singleton, List.length_map]
              exact hro6
            · have hb := (HBE.out.alloc HBE.out.size (.cells #[.int .i64 x.k, .int .i64 x.n] 26))
              exact (hb.alloc hb.size _).grown HGR6.out (by have := HBE.out.size; rw [size2]; omega) (fun j hj => (HROW.out.lt j hj).1)
          case measure => simp [intOf]; omega
        · have hd : decide (x.k < key) = false := decide_eq_false h1
          by_cases h2 : x.n.tmod 2 = 0
          · have hMx : remM key x.k x.n = true := by simp [remM, h2]; omega
            clear h1
            have hsn := kept_yes (xs := o.take i) hMx
            rw [← take_snoc' HX.out] at hsn
            have HSN := Lib.hid hsn
            clear hsn hMx
            go_wp2_with fail
            go_roundw
            case rel =>
              refine ⟨i + 1, by go_num, by have := HOL.out; rw [List.length_map] at this; omega, ?_, HBE.out.alloc HBE.out.size _⟩
              rw [HSN.out]
              exact HROW.out.alloc _
            case measure => simp [intOf]; omega
          · have hMx : remM key x.k x.n = false := by simp [remM, h2]
            have hd2 : (x.n.tmod 2 == 0) = false := beq_eq_false_iff_ne.2 h2
            have hd3 : (x.n.tmod 2 != 0) = true := by rw [bne_iff_ne]; exact h2
            clear h1
            have hsn := kept_no (xs := o.take i) hMx
            rw [← take_snoc' HX.out] at hsn
            have HSN := Lib.hid hsn
            clear hsn hMx
            go_wp2_with (at_builtin; go_must (refine wpList_append_lies _ rfl (.tmp 40) (.tmp 42) 24 rfl w5.heap.size 26 i0 _ 2 16 Try.underlying24 hi0 hz0 hz1 hz2 rfl (by omega) _ ((kept (remM key) (o.take i)).map It.im).length (flat pk ((kept (remM key) (o.take i)).map It.im)) rfl ((HROW.out.alloc _).alloc _) ⟨wr.heap.size + 1, 0, none⟩ 1 1 (pk (x.k, x.n)) rfl rfl ?c1b ?c2b (by omega) ?c3b ?c4b ?c5b (wr.heap.size + 2) ?c6b ?_))
            case c1b => exact World.news_of_block (cs := #[.int .i64 x.k, .int .i64 x.n]) (t := 26) (fr := (0, 0)) (blk2 _ _ _)
            case c2b => simp [Value.oneCell', pk]
            case c3b => unfold maxLen; have := HML.out; omega
            case c4b => have := HML.out; omega
            case c5b => have := HBE.out.size; rw [size2]; omega
            case c6b => exact size2 _ _ _
            intro gg cc w6 hro6 hgr6 hat6 hlt6
            have HRO6 := Lib.hid hro6
            have HGR6 := Lib.hid hgr6
            clear hro6 hgr6 hat6 hlt6
            go_wp2_with fail
            go_roundw
            case rel =>
              refine ⟨i + 1, by go_num, by have := HOL.out; rw [List.length_map] at this; omega, ?_, ?_⟩
              · have e : (kept (remM key) (o.take (i + 1))).map It.im = (kept (remM key) (o.take i)).map It.im ++ [(x.k, x.n)] := by rw [HSN.out]; simp [It.im]
                rw [e]
                have hro6 := HRO6.out
                simp only [IRow, flat_snoc, List.length_append, List.length_singleton, List.length_map]
                exact hro6
              · have hb := (HBE.out.alloc HBE.out.size (.cells #[.int .i64 x.k, .int .i64 x.n] 26))
                exact (hb.alloc hb.size _).grown HGR6.out (by have := HBE.out.size; rw [size2]; omega) (fun j hj => (HROW.out.lt j hj).1)
            case measure => simp [intOf]; omega
      · have he : i = m.length := by omega
        subst he
        clear hlt hi'
        have hot : o.take m.length = o := List.take_of_length_le (by have := HOL.out; rw [List.length_map] at this; omega)
        have hrw := HROW.out
        rw [hot] at hrw
        obtain ⟨ar, cr, hsr⟩ := irow_shape hrw
        have hkk : ((kept (remM key) o).map It.im).length = kl := by rw [List.length_map, (kept_perm HP.out).length_eq, HKLE.out]
        rw [hkk] at hsr
        subst hsr
        have HRW := Lib.hid hrw
        have HA6 := Lib.hid (HA5.out.below HBE.out)
        clear hot hrw hkk
        go_wp2_with fail
        refine (len_l HA6.out).mono ?_
        rintro e w7 ⟨he, hw⟩
        rw [HKLE.out] at he
        subst he
        subst hw
        go_wp2_with fail
        refine (popped_any cmp_byKey HA6.out (by rw [HKLE.out]; omega) (by have := HB1.out.size; have := HB2.out.size; have := HB3.out.size; have := HFRA.out.size; have := HFRB.out.size; have := HBE.out.size; omega)).mono ?_
        rintro e w7 ⟨s2, o2, rfl, hs2, hp2, hr2, _, _, _, hfr7⟩
        have e2 : o2 = kept (remM key) o := srt_unique hs2 (kept_srt HS.out) (hp2.trans (kept_perm HP.out).symm)
        subst e2
        have hrest7 : IRow w7 w5.heap.size (.slice ar kl cr) ((kept (remM key) o).map It.im) := hfr7.owns HRW.out (HA6.out.apart HRW.out)
        have hkle2 : ((kept (remM key) o).map It.im).length ≤ 1000 := by rw [List.length_map, (kept_perm HP.out).length_eq, HKLE.out]; omega
        have HSM := Lib.hid (same_any s2 _ _ _ w7 hr2.its hrest7.its hkle2 hkle2)
        have HFR7 := Lib.hid hfr7
        clear hs2 hp2 hr2 hfr7 hrest7 hkle2
        go_wp2_with fail
        refine (HSM.out).mono ?_
        rintro e w8 ⟨he, hb8⟩
        have he : e = .returned (.bool true) := he.trans (by simp)
        subst he
        have HB8 := Lib.hid hb8
        clear hb8
        go_wp2_with fail
        go_ret
        refine ⟨rfl, ?_⟩
        have hb6 := HB5.out.trans (HBE.out.mono HB5.out.size)
        have hb7 := hb6.trans (HFR7.out.below hb6.size (fun k hk h => by
          have := HB1.out.size
          rcases h with h | h
          · omega
          · have := (HA6.out.row k h).1; omega))
        exact hb7.trans (HB8.out.mono hb7.size)
  · have hl : (300 : Int) < (m.length : Int) := by omega
    go_enter Try.func9, Try.ntmps9
    go_wp2_with (go_at_call 11; ((with_reducible refine (HW.out).mono ?_); rintro e w1 ⟨rfl, hb⟩; have HB := Lib.hid hb; clear hb))
    go_ret
    exact ⟨rfl, HB0.out.trans (HB.out.mono HB0.out.size)⟩

end Go.Proofs.Ytlhgoklojhgfeaa
