/- The walk of HeapOrders: it returns true whatever the items.
   Conditions: none. -/
import Derived.Test.YtlhgoklojhgfeaaNA
namespace Go.Proofs.Ytlhgoklojhgfeaa
open Go.RowKit Go.HeapW Go.HeapP
set_option linter.unusedSimpArgs false
set_option linter.unusedVariables false

def OrdersL (w : World) (hb : Nat) (ks : List Int) (c : Value) (wr : World) : Prop :=
  ∃ i : Nat, c = .int .i64 i ∧ i ≤ ks.length ∧ Mine w wr hb w.heap.size 15 (fun k => -k) (numb (mk (ks.take i))) i
def OrdersO (w : World) (n : Nat) (c : Value) (wr : World) : Prop := ∃ i : Nat, c = .int .i64 i ∧ 1 ≤ i ∧ i ≤ n + 1 ∧ Below w.heap.size w wr

set_option maxHeartbeats 4000000 in
set_option maxRecDepth 100000 in
theorem orders_walk (a : Option Addr) (cap : Nat) (m : List Im) (w : World) (hI : Its w (.slice a m.length cap) m) (hbig : m.length ≤ 9223372036854775807) :
    Calls Try.prog 4 #[.slice a m.length cap] w fun e w' => e = .returned (.bool true) ∧ Below w.heap.size w w' := by
  have HW := Lib.hid (awake_any w)
  have hmx : (m.length : Int) ≤ 9223372036854775807 := by omega
  have HI := Lib.hid hI
  clear hI hbig
  by_cases hlen : m.length ≤ 300
  · have hl : (m.length : Int) ≤ 300 := by omega
    have hld : decide ((300 : Int) < (m.length : Int)) = false := decide_eq_false (by omega)
    clear hmx
    go_enter Try.func4, Try.ntmps4
    go_wp2_with (first | (go_at_call 11; ((with_reducible refine (HW.out).mono ?_); rintro e w1 ⟨rfl, hb⟩; have HB := Lib.hid hb; clear hb)) | (go_at_call 14; fail))
    refine (new_l 15 (fun k => -k) w.heap.size w1).mono ?_
    rintro e w2 ⟨rfl, hh, hb2⟩
    have HH := Lib.hid hh
    have HB2 := Lib.hid (HB.out.trans (hb2.mono HB.out.size))
    clear hh hb2
    obtain ⟨ks, hks⟩ : ∃ ks, m.map Prod.fst = ks := ⟨_, rfl⟩
    have hkl : ks.length = m.length := by rw [← hks, List.length_map]
    have HKS := Lib.hid hks
    have HKL := Lib.hid hkl
    clear hks hkl
    go_wp2_with fail
    go_loopw [16] (fun c wr => OrdersL w w1.heap.size ks c wr) (fun c _ => m.length - (intOf c).toNat)
    case atStart => exact ⟨0, rfl, Nat.zero_le _, _, HH.out, HB.out.size, fun g h => by simp [Value.ownBlock] at h, HB2.out⟩
    case round =>
      obtain ⟨i, rfl, hi, vh, hh, h0, hg, hB⟩ := hrel
      have HH' := Lib.hid hh
      have HG := Lib.hid hg
      have HB' := Lib.hid hB
      have HH0 := Lib.hid h0
      have hi' : i ≤ m.length := by have := HKL.out; omega
      clear hh hg hB h0 hi
      by_cases hlt : i < m.length
      · obtain ⟨p, hp⟩ : ∃ p, m[i]? = some p := ⟨_, List.getElem?_eq_getElem hlt⟩
        obtain ⟨b, off, ha, c0, c1⟩ := its_cells HI.out HB'.out hp
        subst ha
        have hil : (i : Int) < m.length := by omega
        have hin0 : (0 : Int) ≤ i := by omega
        have hbl' : b < wr.heap.size := World.block_lt_of_cell? wr _ c0
        have hk : ks[i]? = some p.1 := by have := HKS.out; rw [← this, List.getElem?_map, hp]; rfl
        have HP := Lib.hid hk
        have HA := Lib.hid (HH'.out.below ((Below.refl _ wr).alloc (Nat.le_refl _) (.cells #[.int .i64 p.1, .int .i64 p.2] 26)))
        have hpu := Lib.hid (push_l cmp_rev HA.out (by rw [numb_length, mk_length, List.length_take]; omega) (by omega) (by have := HB'.out.size; simp; omega) p.1 i)
        clear hp hk hi'
        go_wp2_with (go_at_call 16; ((with_reducible refine (hpu.out).mono ?_); rintro e w3 ⟨rfl, hx⟩; have HX := Lib.hid hx; clear hx))
        go_roundw
        case rel =>
          obtain ⟨v', hh', hown, hfr⟩ := HX.out
          refine ⟨i + 1, by go_num, by have := HKL.out; omega, ?_⟩
          have hnum : numb (mk (ks.take (i + 1))) = numb (mk (ks.take i)) ++ [⟨p.1, i, (i : Int)⟩] := by
            have hkl := HKL.out
            rw [take_snoc' HP.out, mk_snoc, numb_snoc, mk_length, List.length_take, Nat.min_eq_left (by omega)]
          rw [hnum]
          exact Mine.push HA.out HH0.out HG.out (HB'.out.alloc HB'.out.size _) hh' hown hfr
        case measure => simp [intOf]; omega
      · have he : i = m.length := by omega
        subst he
        clear hlt hi'
        have hhe := HH'.out
        rw [show m.length = ks.length from HKL.out.symm, List.take_length] at hhe
        have HHE := Lib.hid hhe
        clear hhe
        have hpo := popped_any cmp_rev HHE.out (by rw [numb_length, mk_length, HKL.out]; omega) HB'.out.size
        have HPO := Lib.hid hpo
        clear hpo
        go_wp2_with (go_at_call 12; fail)
        refine (HPO.out).mono ?_
        rintro e w3 ⟨so, o, rfl, hsrt, hperm, hro, v3, _, _, hfr⟩
        obtain ⟨ao, co, hso⟩ := irow_shape hro
        have hol : (o.map It.im).length = m.length := by rw [List.length_map, hperm.length_eq, numb_length, mk_length, HKL.out]
        rw [hol] at hso
        subst hso
        have hB3 : Below w.heap.size w w3 := HB'.out.trans (hfr.below HB'.out.size (fun k hk hs => by
          rcases hs with rfl | hs
          · have := HH0.out; omega
          · have := HG.out k hs; omega))
        have HIO3 := Lib.hid hro.its
        have HB3 := Lib.hid hB3
        have HS := Lib.hid hsrt
        have HP := Lib.hid hperm
        have HOL := Lib.hid hol
        clear hsrt hperm hro hfr hB3 hol
        go_wp2_with fail
        go_loopw [7] (fun c wr => OrdersO w3 m.length c wr) (fun c _ => m.length + 1 - (intOf c).toNat)
        case atStart => exact ⟨1, rfl, by omega, by omega, Below.refl _ _⟩
        case round =>
          obtain ⟨i, rfl, hi1, hi, hb4⟩ := hrel
          have HB4 := Lib.hid hb4
          clear hb4
          by_cases hlt : i < m.length
          · obtain ⟨x, hx⟩ : ∃ x, o[i]? = some x := ⟨_, List.getElem?_eq_getElem (by have := HOL.out; rw [List.length_map] at this; omega)⟩
            obtain ⟨q, hq, hxn, hxs, hlq⟩ := mem_numb_mk (HP.out.subset (List.mem_of_getElem? hx))
            obtain ⟨bo, oo, hao, c0, c1⟩ := its_cells HIO3.out HB4.out (show (o.map It.im)[i]? = some x.im by simp [hx])
            subst hao
            simp only [It.im] at c0 c1
            rw [hxn] at c1
            have hil : (i : Int) < (m.length : Int) := by omega
            have hin0 : (0 : Int) ≤ (i : Int) := by omega
            obtain ⟨j, hj⟩ : ∃ j, i - 1 = j := ⟨_, rfl⟩
            have hj1 : (i : Int) - 1 = (j : Int) := by omega
            obtain ⟨y, hy⟩ : ∃ y, o[j]? = some y := ⟨_, List.getElem?_eq_getElem (by have := lt_of_get hx; omega)⟩
            obtain ⟨r, hr, hyn, hys, _⟩ := mem_numb_mk (HP.out.subset (List.mem_of_getElem? hy))
            obtain ⟨bo', oo', hao', f0, f1⟩ := its_cells HIO3.out HB4.out (show (o.map It.im)[j]? = some y.im by simp [hy])
            obtain ⟨rfl, rfl⟩ : bo' = bo ∧ oo' = oo := by simpa using hao'.symm
            simp only [It.im] at f0 f1
            rw [hyn] at f1
            have hjl : (j : Int) < (m.length : Int) := by omega
            have hj0 : (0 : Int) ≤ (j : Int) := by omega
            have hi1' : (1 : Int) ≤ (i : Int) := by omega
            have hbf := srt_get HS.out hy hx (by omega)
            rw [bef_iff] at hbf
            rw [hys, hxs] at hbf
            have g1 : decide (y.k < x.k) = false := decide_eq_false (by omega)
            by_cases hk : x.k = y.k
            · have g2 : (x.k == y.k) = true := beq_iff_eq.2 hk
              have g3 : decide (q < r) = false := decide_eq_false (by omega)
              clear hy hyn hys hj hbf hk hao' hr hx hxn hxs hlq hi hq hi1
              go_wp2_with fail
              go_quiet (fail)
              go_wp2_with fail
              go_roundw
              case rel => exact ⟨i + 1, by go_num, by omega, by omega, below_drewN HB4.out _⟩
              case measure => simp [intOf]; omega
            · have g2 : (x.k == y.k) = false := beq_eq_false_iff_ne.2 hk
              clear hy hyn hys hj hbf hk hao' hr hx hxn hxs hlq hi hq hi1
              go_wp2_with fail
              go_quiet (fail)
              go_wp2_with fail
              go_roundw
              case rel => exact ⟨i + 1, by go_num, by omega, by omega, below_drewN HB4.out _⟩
              case measure => simp [intOf]; omega
          · have hge : (m.length : Int) ≤ (i : Int) := by omega
            clear hlt
            go_wp2_with fail
            go_ret
            exact ⟨rfl, HB3.out.trans (HB4.out.mono HB3.out.size)⟩
  · have hl : (300 : Int) < (m.length : Int) := by omega
    go_enter Try.func4, Try.ntmps4
    go_wp2_with (go_at_call 11; ((with_reducible refine (HW.out).mono ?_); rintro e w1 ⟨rfl, hb⟩; have HB := Lib.hid hb; clear hb))
    go_ret
    exact ⟨rfl, HB.out⟩

end Go.Proofs.Ytlhgoklojhgfeaa
