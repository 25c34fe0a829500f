/- The walk of HeapPlays: it returns true whatever the operations.
   Conditions: none. -/
import Derived.Test.YtlhgoklojhgfeaaU
import Derived.Test.YtlhgoklojhgfeaaND
namespace Go.Proofs.Ytlhgoklojhgfeaa
open Go.RowKit Go.HeapW Go.HeapP
set_option linter.unusedSimpArgs false
set_option linter.unusedVariables false

/-- Heap and list behind n operations. -/
def PlayRel (w : World) (hb : Nat) (n : Nat) (s : Value) (wr : World) : Prop :=
  ∃ (l : List It) (next : Int), l.length ≤ n ∧ next ≤ n ∧ IRow wr w.heap.size s (l.map It.im) ∧ Mine w wr hb w.heap.size 23 (fun k => k) l next

set_option maxHeartbeats 4000000 in
set_option maxRecDepth 100000 in
theorem plays_walk (a : Option Addr) (cap : Nat) (m : List Op3) (w : World) (hI : Opsl w (.slice a m.length cap) m) (hbig : m.length ≤ 9223372036854775807) :
    Calls Try.prog 7 #[.slice a m.length cap] w fun e w' => e = .returned (.bool true) ∧ Below w.heap.size w w' := by
  have HW := Lib.hid (awake_any w)
  have hmx : (m.length : Int) ≤ 9223372036854775807 := by omega
  have HI := Lib.hid hI
  clear hI hbig
  by_cases hlen : m.length ≤ 100
  · have hl : (m.length : Int) ≤ 100 := by omega
    have hld : decide ((100 : Int) < (m.length : Int)) = false := decide_eq_false (by omega)
    clear hmx
    obtain ⟨i0, hi0, hz0, hz1, hz2⟩ := info_parts info26
    go_enter Try.func7, Try.ntmps7
    go_wp2_with (first | (go_at_call 11; ((with_reducible refine (HW.out).mono ?_); rintro e w1 ⟨rfl, hb⟩; have HB := Lib.hid hb; clear hb)) | (go_at_call 14; fail))
    refine (new_l 23 (fun k => k) w.heap.size w1).mono ?_
    rintro e w2 ⟨rfl, hh, hb2⟩
    have HH := Lib.hid hh
    have HB2 := Lib.hid hb2
    clear hh hb2
    go_wp2_with fail
    go_loopg [4, 23] m.length (fun gk s c wr => ∃ i : Nat, c = .int .i64 i ∧ i ≤ m.length ∧ m.length ≤ gk + i ∧ PlayRel w w1.heap.size i s wr)
    case atStart => exact ⟨0, rfl, Nat.zero_le _, Nat.le_refl _, [], 0, Nat.le_refl _, Int.le_refl _, irow_nil _ _, _, HH.out, HB.out.size, fun g h => by simp [Value.ownBlock] at h, HB.out.trans (HB2.out.mono HB.out.size)⟩
    case round =>
      obtain ⟨i, rfl, hi, hgk, l, next, hll, hnx, hrow, v, hh, hhb, hg, hbe⟩ := hrel
      have HGK := Lib.hid hgk
      clear hgk
      by_cases hlt : i < m.length
      · obtain ⟨⟨c0, c1, c2⟩, hp⟩ : ∃ p, m[i]? = some p := ⟨_, List.getElem?_eq_getElem hlt⟩
        obtain ⟨b, off, hb0, d0, d1, d2⟩ := opsl_cells HI.out hbe hp
        subst hb0
        simp only at d0 d1 d2
        have hil : (i : Int) < (m.length : Int) := by omega
        have hin0 : (0 : Int) ≤ (i : Int) := by omega
        obtain ⟨asl, csl, hse⟩ := irow_shape hrow
        rw [List.length_map] at hse
        subst hse
        have HROW := Lib.hid hrow
        have HHP := Lib.hid hh
        have HG := Lib.hid hg
        have HHB := Lib.hid hhb
        have HBE := Lib.hid hbe
        have HLL := Lib.hid hll
        have HNX := Lib.hid hnx
        clear hrow hh hg hhb hbe hll hnx hp hi
        have HFI := Lib.hid (first_any _ _ _ (HROW.out.its.below ((Below.refl _ wr).alloc (Nat.le_refl _) (.cells #[.int .i64 c0, .int .i64 c1, .int .i64 c2] 53))) (by rw [List.length_map]; have := HLL.out; omega))
        go_wp2_with (go_at_call 26; fail)
        refine (HFI.out).mono ?_
        rintro e w3 ⟨⟨fa, rfl, hf⟩, hb3⟩
        have HF := Lib.hid hf
        have HB3 := Lib.hid hb3
        have hO3 := (Fr.of_below (S := fun _ => False) hb3).keep (alloc_new wr (.cells #[.int .i64 c0, .int .i64 c1, .int .i64 c2] 53)) (fun h => h)
        have HO3 := Lib.hid hO3
        have k0 : w3.cell? ⟨wr.heap.size, 0, none⟩ = some (.int .i64 c0) := (cell_of_blk hO3 0).trans rfl
        have k1 : w3.cell? ⟨wr.heap.size, 1, none⟩ = some (.int .i64 c1) := (cell_of_blk hO3 1).trans rfl
        have k2 : w3.cell? ⟨wr.heap.size, 2, none⟩ = some (.int .i64 c2) := (cell_of_blk hO3 2).trans rfl
        have kl := lt_of_block hO3
        have HH3 := Lib.hid ((HHP.out.below ((Below.refl _ wr).alloc (Nat.le_refl _) (.cells #[.int .i64 c0, .int .i64 c1, .int .i64 c2] 53))).below hb3)
        have HROW3 : Hid (IRow w3 w.heap.size (.slice asl l.length csl) (l.map It.im)) := Lib.hid ((Fr.of_below (S := fun _ => False) hb3).owns (HROW.out.alloc (.cells #[.int .i64 c0, .int .i64 c1, .int .i64 c2] 53)) (fun _ _ h => h))
        have HBE3 := Lib.hid ((HBE.out.alloc HBE.out.size (.cells #[.int .i64 c0, .int .i64 c1, .int .i64 c2] 53)).trans (hb3.mono (by have := HBE.out.size; simp; omega)))
        clear hf hb3 hO3
        go_upto_block 2 with fail
        go_cut [4] from 24 to 133 (fun s wx => PlayRel w w1.heap.size (i + 1) s wx)
        case first =>
          have hmd := HLL.out
          clear d0 d1 d2 HROW HHP HBE HFI
          by_cases q1 : c0 = 1
          · subst q1
            have HPU := Lib.hid (push_l cmp_byKey HH3.out (by have := HLL.out; omega) (by have := HNX.out; omega) HBE3.out.size c1 c2)
            go_wp2_with fail
            refine (HPU.out).mono ?_
            rintro e w4 ⟨rfl, v4, hh4, hown4, hfr4⟩
            have hO4 := hfr4.keep HO3.out (HH3.out.off HO3.out (by decide) (by decide))
            have j1 : w4.cell? ⟨wr.heap.size, 1, none⟩ = some (.int .i64 c1) := (cell_of_blk hO4 1).trans rfl
            have j2 : w4.cell? ⟨wr.heap.size, 2, none⟩ = some (.int .i64 c2) := (cell_of_blk hO4 2).trans rfl
            have jl := lt_of_block hO4
            have HR4 := Lib.hid (hfr4.owns HROW3.out (HH3.out.apart HROW3.out))
            have HM4 := Lib.hid (Mine.push HH3.out HHB.out HG.out HBE3.out hh4 hown4 hfr4)
            have HFR4 := Lib.hid hfr4
            have HLM : Hid ((l.map It.im).length = l.length) := Lib.hid (List.length_map _)
            clear hh4 hown4 hfr4 hO4 k0 k1 k2 kl
            go_wp2_with (at_builtin; go_must (refine wpList_append_lies _ rfl (.tmp 37) (.tmp 40) 24 rfl w.heap.size 26 i0 _ 2 16 Try.underlying24 hi0 hz0 hz1 hz2 rfl (by omega) _ (l.map It.im).length (flat pk (l.map It.im)) rfl (HR4.out.alloc _) ⟨w4.heap.size, 0, none⟩ 1 1 (pk (c1, c2)) rfl rfl ?c1 ?c2 (by omega) ?c3 ?c4 ?c5 (w4.heap.size + 1) ?c6 ?_))
            case c1 => exact World.news_of_block (cs := #[.int .i64 c1, .int .i64 c2]) (t := 26) (fr := (0, 0)) (alloc_new _ _)
            case c2 => simp [Value.oneCell', pk]
            case c3 => unfold maxLen; rw [HLM.out]; have := HLL.out; omega
            case c4 => rw [HLM.out]; have := HLL.out; omega
            case c5 => have := HBE3.out.size; have := HFR4.out.size; simp; omega
            case c6 => simp
            intro gg cc w6 hro6 hgr6 hat6 hlt6
            go_wp2_with fail
            go_meet
            obtain ⟨vz, hz1, hz2, hz3, hz4⟩ := HM4.out
            have hF6 : Fr (fun j => Value.ownBlock _ = some j) w4 w6 := ((Fr.refl _ w4).alloc _).trans (Fr.of_grown hgr6)
            refine ⟨l ++ [⟨c1, c2, next⟩], next + 1, by rw [List.length_append, List.length_singleton]; have := HLL.out; omega, by have := HNX.out; omega, ?_, vz, hz1.keep hF6 (fun h => hz1.apart HR4.out _ h (Or.inl rfl)) (fun j hj h => hz1.apart HR4.out _ h (Or.inr hj)), hz2, hz3, hz4.trans (hF6.below hz4.size (fun k hk h => by have := (HR4.out.lt k h).1; omega))⟩
            have e : (l ++ [(⟨c1, c2, next⟩ : It)]).map It.im = l.map It.im ++ [(c1, c2)] := by simp [It.im]
            rw [e]
            simp only [IRow, flat_snoc, List.length_append, List.length_singleton, List.length_map]
            exact hro6
          · have e1 : (c0 == 1) = false := beq_eq_false_iff_ne.2 q1
            by_cases q2 : c0 = 2
            · subst q2
              by_cases hl0 : l = []
              · subst hl0
                have hfa : fa = -1 := by
                  rcases HF.out with ⟨_, h⟩ | ⟨j, p, _, h, _⟩
                  · exact h
                  · simp at h
                subst hfa
                go_wp2_with fail
                refine (peek_l0 HH3.out).mono ?_
                rintro e w4 ⟨rfl, hb4⟩
                have hO4 := (Fr.of_below (S := fun _ => False) hb4).keep HO3.out (fun h => h)
                have j0 : w4.cell? ⟨wr.heap.size, 0, none⟩ = some (.int .i64 2) := (cell_of_blk hO4 0).trans rfl
                have jl := lt_of_block hO4
                have HB4 := Lib.hid hb4
                have HA := Lib.hid (alloc_new w4 (.cells #[.int .i64 0, .int .i64 0] 26))
                have HH4 := Lib.hid ((HH3.out.below hb4).below ((Below.refl _ w4).alloc (Nat.le_refl _) (.cells #[.int .i64 0, .int .i64 0] 26)))
                clear hb4 hO4 k0 k1 k2 kl
                go_wp2_with fail
                refine (pop_l0 HH4.out).mono ?_
                rintro e w5 ⟨rfl, hb5⟩
                have hA5 := (Fr.of_below (S := fun _ => False) hb5).keep HA.out (fun h => h)
                have m0 : w5.cell? ⟨w4.heap.size, 0, none⟩ = some (.int .i64 0) := (cell_of_blk hA5 0).trans rfl
                have m1 : w5.cell? ⟨w4.heap.size, 1, none⟩ = some (.int .i64 0) := (cell_of_blk hA5 1).trans rfl
                have n0 : w5.frozen? ⟨w4.heap.size, 0, none⟩ = false := free_of_blk hA5 0
                have n1 : w5.frozen? ⟨w4.heap.size, 1, none⟩ = false := free_of_blk hA5 1
                have ml := lt_of_block hA5
                have HB5 := Lib.hid hb5
                clear hb5 hA5
                go_wp2_with fail
                go_quiet (fail)
                go_wp2_with fail
                go_meet
                have hbf : Below w3.heap.size w3 ((w5.setCell ⟨w4.heap.size, 0, none⟩ (.int .i64 0)).setCell ⟨w4.heap.size, 1, none⟩ (.int .i64 0)) := (((HB4.out.alloc HB4.out.size (.cells #[.int .i64 0, .int .i64 0] 26)).trans (HB5.out.mono (by have := HB4.out.size; simp; omega))).setCell (p := ⟨w4.heap.size, 0, none⟩) HB4.out.size _).setCell (p := ⟨w4.heap.size, 1, none⟩) HB4.out.size _
                have hbd := below_drewN hbf nq
                exact ⟨[], next, Nat.zero_le _, by have := HNX.out; omega, (Fr.of_below (S := fun _ => False) hbd).owns HROW3.out (fun _ _ h => h), v, HH3.out.below hbd, HHB.out, HG.out, HBE3.out.trans (hbd.mono HBE3.out.size)⟩
              · obtain ⟨j, x, rfl, hx, hmin, her⟩ := first_min HH3.out.2.1 HF.out hl0
                have hlp : 0 < l.length := List.length_pos_iff.2 hl0
                have hjl : (j : Int) < (l.length : Int) := by have := lt_of_get hx; omega
                have hj0 : (0 : Int) ≤ (j : Int) := by omega
                have hjd : decide ((0 : Int) ≤ (j : Int)) = true := decide_eq_true hj0
                have HX := Lib.hid hx
                have HMIN := Lib.hid hmin
                have HER := Lib.hid her
                have HLP := Lib.hid hlp
                obtain ⟨xp, hxp, hpe⟩ := peek_l HH3.out hlp
                have exp : xp = x := IsMin.unique HH3.out.2.1 hxp hmin
                subst exp
                have HPE := Lib.hid hpe
                clear hl0 hx hmin her hlp hpe hxp
                go_wp2_with fail
                refine (HPE.out).mono ?_
                rintro e w4 ⟨rfl, hb4⟩
                have HB4 := Lib.hid hb4
                have HO4 := Lib.hid ((Fr.of_below (S := fun _ => False) hb4).keep HO3.out (fun h => h))
                have j0 : w4.cell? ⟨wr.heap.size, 0, none⟩ = some (.int .i64 2) := (cell_of_blk HO4.out 0).trans rfl
                have jl := lt_of_block HO4.out
                have HA := Lib.hid (alloc_new w4 (.cells #[.int .i64 xp.k, .int .i64 xp.n] 26))
                have HB4A := Lib.hid (hb4.alloc hb4.size (.cells #[.int .i64 xp.k, .int .i64 xp.n] 26))
                have HH4 := Lib.hid ((HH3.out.below hb4).below ((Below.refl _ w4).alloc (Nat.le_refl _) (.cells #[.int .i64 xp.k, .int .i64 xp.n] 26)))
                have HR4 := Lib.hid ((Fr.of_below (S := fun _ => False) HB4A.out).owns HROW3.out (fun _ _ h => h))
                clear hb4 k0 k1 k2 kl
                go_wp2_with fail
                obtain ⟨xq, hxq, hpo⟩ := pop_l cmp_byKey HH4.out (by have := HLL.out; omega) HLP.out
                have exq : xq = xp := IsMin.unique HH4.out.2.1 hxq HMIN.out
                subst exq
                refine (hpo).mono ?_
                rintro e w5 ⟨rfl, v5, hh5, hown5, hfr5⟩
                have HA5 := Lib.hid (hfr5.keep HA.out (HH4.out.off HA.out (by decide) (by decide)))
                have hO5 := hfr5.keep (alloc_keep HO4.out (.cells #[.int .i64 xq.k, .int .i64 xq.n] 26)) (HH4.out.off (alloc_keep HO4.out _) (by decide) (by decide))
                have i5 : w5.cell? ⟨wr.heap.size, 0, none⟩ = some (.int .i64 2) := (cell_of_blk hO5 0).trans rfl
                have il := lt_of_block hO5
                have m0 : w5.cell? ⟨w4.heap.size, 0, none⟩ = some (.int .i64 xq.k) := (cell_of_blk HA5.out 0).trans rfl
                have m1 : w5.cell? ⟨w4.heap.size, 1, none⟩ = some (.int .i64 xq.n) := (cell_of_blk HA5.out 1).trans rfl
                have n0 : w5.frozen? ⟨w4.heap.size, 0, none⟩ = false := free_of_blk HA5.out 0
                have n1 : w5.frozen? ⟨w4.heap.size, 1, none⟩ = false := free_of_blk HA5.out 1
                have ml := lt_of_block HA5.out
                have HR5 := Lib.hid (hfr5.owns HR4.out (HH4.out.apart HR4.out))
                have HM5 := Lib.hid (Mine.push HH4.out HHB.out HG.out (HBE3.out.trans (HB4A.out.mono HBE3.out.size)) hh5 hown5 hfr5)
                have hF : Fr (fun q => q = w4.heap.size) w5 ((w5.setCell ⟨w4.heap.size, 0, none⟩ (.int .i64 xq.k)).setCell ⟨w4.heap.size, 1, none⟩ (.int .i64 xq.n)) := Fr.set1 (Fr.set1 (Fr.refl _ w5) w4.heap.size 0 (by rfl) _) w4.heap.size 1 (by rfl) _
                have HF5 := Lib.hid hF
                have HR6 := Lib.hid (hF.owns HR5.out (fun g hg e => by have := (HROW3.out.lt g hg).2; have := HB4.out.size; omega))
                clear hpo hh5 hown5 hfr5 hO5 hF hxq
                obtain ⟨b2, off2, hb2, g0, g1⟩ := its_cells (IRow.its HR5.out) (Below.refl _ _) (show (l.map It.im)[j]? = some xq.im by simp [HX.out])
                subst hb2
                simp only [It.im] at g0 g1
                have hne2 : b2 ≠ w4.heap.size := fun e => by have := (irow_at HROW3.out ⟨_, _, _, rfl, rfl⟩).2; have := HB4.out.size; simp only at *; omega
                go_wp2_with fail
                go_quiet (fail)
                go_wp2_with fail
                refine (without_any _ (l.map It.im) j _ ?its ?len ?jb).mono ?_
                case its => exact (IRow.its HR6.out).below (below_drewN (Below.refl _ _) _)
                case len => rw [List.length_map]; have := HLL.out; omega
                case jb => have := HLL.out; omega
                rintro e w6 ⟨⟨s6, rfl, hr6⟩, hb6⟩
                go_wp2_with fail
                go_meet
                obtain ⟨vz, hz1, hz2, hz3, hz4⟩ := HM5.out
                have hb7 : Below ((w5.setCell ⟨w4.heap.size, 0, none⟩ (.int .i64 xq.k)).setCell ⟨w4.heap.size, 1, none⟩ (.int .i64 xq.n)).heap.size ((w5.setCell ⟨w4.heap.size, 0, none⟩ (.int .i64 xq.k)).setCell ⟨w4.heap.size, 1, none⟩ (.int .i64 xq.n)) w6 := by
                  refine Below.trans ?_ hb6
                  exact below_drewN (Below.refl _ _) _
                have hz5 := hz1.keep HF5.out (fun e => hz1.off HA5.out (by decide) (by decide) (Or.inl e.symm)) (fun g hg e => hz1.off HA5.out (by decide) (by decide) (Or.inr (e ▸ hg)))
                have hz6 := hz4.trans (HF5.out.below hz4.size (fun k hk e => by have := HB4A.out.size; have := HB4.out.size; have := HBE3.out.size; omega))
                refine ⟨l.erase xq, next, by have := HLL.out; have := List.length_erase_of_mem HMIN.out.1; omega, by have := HNX.out; omega, ?_, vz, hz5.below hb7, hz2, hz3, hz6.trans (hb7.mono hz6.size)⟩
                rw [HER.out, ← map_eraseIdx']
                exact owns_base hr6 hz6.size
            · have e2 : (c0 == 2) = false := beq_eq_false_iff_ne.2 q2
              by_cases q3 : c0 = 3
              · subst q3
                by_cases hl0 : l = []
                · subst hl0
                  have hfa : fa = -1 := by
                    rcases HF.out with ⟨_, h⟩ | ⟨j, p, _, h, _⟩
                    · exact h
                    · simp at h
                  subst hfa
                  go_wp2_with fail
                  refine (peek_l0 HH3.out).mono ?_
                  rintro e w4 ⟨rfl, hb4⟩
                  have hO4 := (Fr.of_below (S := fun _ => False) hb4).keep HO3.out (fun h => h)
                  have j0 : w4.cell? ⟨wr.heap.size, 0, none⟩ = some (.int .i64 3) := (cell_of_blk hO4 0).trans rfl
                  have jl := lt_of_block hO4
                  have HB4 := Lib.hid hb4
                  have HA := Lib.hid (alloc_new w4 (.cells #[.int .i64 0, .int .i64 0] 26))
                  have HH4 := Lib.hid ((HH3.out.below hb4).below ((Below.refl _ w4).alloc (Nat.le_refl _) (.cells #[.int .i64 0, .int .i64 0] 26)))
                  clear hb4 hO4 k0 k1 k2 kl
                  go_wp2_with fail
                  go_quiet (fail)
                  go_wp2_with fail
                  go_meet
                  have hbf := HB4.out.alloc HB4.out.size (.cells #[.int .i64 0, .int .i64 0] 26)
                  have hbd := below_drewN hbf nq
                  exact ⟨[], next, Nat.zero_le _, by have := HNX.out; omega, (Fr.of_below (S := fun _ => False) hbd).owns HROW3.out (fun _ _ h => h), v, HH3.out.below hbd, HHB.out, HG.out, HBE3.out.trans (hbd.mono HBE3.out.size)⟩
                · obtain ⟨j, x, rfl, hx, hmin, her⟩ := first_min HH3.out.2.1 HF.out hl0
                  have hlp : 0 < l.length := List.length_pos_iff.2 hl0
                  have hjl : (j : Int) < (l.length : Int) := by have := lt_of_get hx; omega
                  have hj0 : (0 : Int) ≤ (j : Int) := by omega
                  have hjd : decide ((0 : Int) ≤ (j : Int)) = true := decide_eq_true hj0
                  have HX := Lib.hid hx
                  have HMIN := Lib.hid hmin
                  have HER := Lib.hid her
                  have HLP := Lib.hid hlp
                  obtain ⟨xp, hxp, hpe⟩ := peek_l HH3.out hlp
                  have exp : xp = x := IsMin.unique HH3.out.2.1 hxp hmin
                  subst exp
                  have HPE := Lib.hid hpe
                  clear hl0 hx hmin her hlp hpe hxp
                  go_wp2_with fail
                  refine (HPE.out).mono ?_
                  rintro e w4 ⟨rfl, hb4⟩
                  have HB4 := Lib.hid hb4
                  have HO4 := Lib.hid ((Fr.of_below (S := fun _ => False) hb4).keep HO3.out (fun h => h))
                  have j0 : w4.cell? ⟨wr.heap.size, 0, none⟩ = some (.int .i64 3) := (cell_of_blk HO4.out 0).trans rfl
                  have jl := lt_of_block HO4.out
                  have HA := Lib.hid (alloc_new w4 (.cells #[.int .i64 xp.k, .int .i64 xp.n] 26))
                  have HB4A := Lib.hid (hb4.alloc hb4.size (.cells #[.int .i64 xp.k, .int .i64 xp.n] 26))
                  have HH4 := Lib.hid ((HH3.out.below hb4).below ((Below.refl _ w4).alloc (Nat.le_refl _) (.cells #[.int .i64 xp.k, .int .i64 xp.n] 26)))
                  have HR4 := Lib.hid ((Fr.of_below (S := fun _ => False) HB4A.out).owns HROW3.out (fun _ _ h => h))
                  clear hb4 k0 k1 k2 kl
                  obtain ⟨b2, off2, hb2, g0, g1⟩ := its_cells (IRow.its HROW3.out) HB4.out (show (l.map It.im)[j]? = some xp.im by simp [HX.out])
                  subst hb2
                  simp only [It.im] at g0 g1
                  have hgl : b2 < w4.heap.size := World.block_lt_of_cell? w4 _ g0
                  go_wp2_with fail
                  go_quiet (fail)
                  go_wp2_with fail
                  go_meet
                  have hbd := below_drewN HB4A.out nq
                  exact ⟨l, next, by have := HLL.out; omega, by have := HNX.out; omega, (Fr.of_below (S := fun _ => False) hbd).owns HROW3.out (fun _ _ h => h), v, HH3.out.below hbd, HHB.out, HG.out, HBE3.out.trans (hbd.mono HBE3.out.size)⟩
              · have e3 : (c0 == 3) = false := beq_eq_false_iff_ne.2 q3
                by_cases q4 : c0 = 4
                · subst q4
                  obtain ⟨kn, hkne⟩ : ∃ kn, (kept (plM c2) l).length = kn := ⟨_, rfl⟩
                  have hkn : kn ≤ l.length := by rw [← hkne]; exact kept_le _ _
                  have hkni : (kn : Int) ≤ (l.length : Int) := by omega
                  have hlli : (l.length : Int) ≤ 100 := by have := HLL.out; omega
                  have HKN := Lib.hid hkne
                  have HRM := Lib.hid (remove_l cmp_byKey HH3.out (by have := HLL.out; omega) HBE3.out.size (mat_pl HO3.out))
                  have hc28 := callFunc28
                  clear hkne hkn
                  go_wp2_with fail
                  refine (HRM.out).mono ?_
                  rintro e w4 ⟨he, v4, hh4, hown4, hfr4⟩
                  rw [HKN.out] at he
                  subst he
                  have HO4 := Lib.hid (hfr4.keep HO3.out (HH3.out.off HO3.out (by decide) (by decide)))
                  have HR4 := Lib.hid (hfr4.owns HROW3.out (HH3.out.apart HROW3.out))
                  have HM4 := Lib.hid (Mine.push HH3.out HHB.out HG.out HBE3.out hh4 hown4 hfr4)
                  have HLM : Hid ((l.map It.im).length = l.length) := Lib.hid (List.length_map _)
                  clear hh4 hown4 hfr4 k0 k1 k2 kl HRM
                  go_wp2_with fail
                  go_loopw [12, 99] (fun s c wr => RemRel w4 (plM c2) l s c wr) (fun _ c _ => l.length - (intOf c).toNat)
                  case atStart => exact ⟨0, rfl, Nat.zero_le _, irow_nil _ _, Below.refl _ _⟩
                  case round =>
                    obtain ⟨q, rfl, hq, hrow, hbe⟩ := hrel
                    have HRQ := Lib.hid hrow
                    have HBQ := Lib.hid hbe
                    clear hrow hbe
                    by_cases hlt2 : q < l.length
                    · obtain ⟨x, hx⟩ : ∃ x, l[q]? = some x := ⟨_, List.getElem?_eq_getElem hlt2⟩
                      obtain ⟨b2, off2, hb2, g0, g1⟩ := its_cells (IRow.its HR4.out) HBQ.out (show (l.map It.im)[q]? = some x.im by simp [hx])
                      subst hb2
                      simp only [It.im] at g0 g1
                      have hql : (q : Int) < (l.length : Int) := by omega
                      have hq0 : (0 : Int) ≤ (q : Int) := by omega
                      have hgl : b2 < wr.heap.size := World.block_lt_of_cell? wr _ g0
                      have HX := Lib.hid hx
                      have hml : ((kept (plM c2) (l.take q)).map It.im).length ≤ q := by
                        rw [List.length_map]
                        have := kept_le (plM c2) (l.take q)
                        rw [List.length_take] at this
                        omega
                      have HML := Lib.hid hml
                      have HA := Lib.hid (alloc_new wr (.cells #[.int .i64 x.k, .int .i64 x.n] 26))
                      have HBA := Lib.hid (HBQ.out.alloc HBQ.out.size (.cells #[.int .i64 x.k, .int .i64 x.n] 26))
                      have hc := plM_any 4 c1 c2 x.k x.n _ _ (alloc_keep ((Fr.of_below (S := fun _ => False) HBQ.out).keep HO4.out (fun h => h)) (.cells #[.int .i64 x.k, .int .i64 x.n] 26))
                      clear hx hq hml
                      cases hMx : plM c2 x.k x.n with
                      | true =>
                        have hsn := kept_yes (xs := l.take q) hMx
                        rw [← take_snoc' HX.out] at hsn
                        rw [hMx] at hc
                        have HSN := Lib.hid hsn
                        have HC := Lib.hid hc
                        clear hsn hMx hc
                        go_wp2_with fail
                        refine (HC.out).mono ?_
                        rintro e w5 ⟨rfl, hb5⟩
                        have HB5 := Lib.hid hb5
                        clear hb5
                        go_wp2_with fail
                        go_roundw
                        case rel =>
                          refine ⟨q + 1, by go_num, by omega, ?_, HBA.out.trans (HB5.out.mono HBA.out.size)⟩
                          rw [HSN.out]
                          exact (Fr.of_below (S := fun _ => False) HB5.out).owns (HRQ.out.alloc _) (fun _ _ h => h)
                        case measure => simp [intOf]; omega
                      | false =>
                        have hsn := kept_no (xs := l.take q) hMx
                        rw [← take_snoc' HX.out] at hsn
                        rw [hMx] at hc
                        have HSN := Lib.hid hsn
                        have HC := Lib.hid hc
                        clear hsn hMx hc
                        go_wp2_with fail
                        refine (HC.out).mono ?_
                        rintro e w5 ⟨rfl, hb5⟩
                        have hA5 := (Fr.of_below (S := fun _ => False) hb5).keep HA.out (fun h => h)
                        have m0 : w5.cell? ⟨wr.heap.size, 0, none⟩ = some (.int .i64 x.k) := (cell_of_blk hA5 0).trans rfl
                        have m1 : w5.cell? ⟨wr.heap.size, 1, none⟩ = some (.int .i64 x.n) := (cell_of_blk hA5 1).trans rfl
                        have HR5 := Lib.hid ((Fr.of_below (S := fun _ => False) hb5).owns (HRQ.out.alloc (.cells #[.int .i64 x.k, .int .i64 x.n] 26)) (fun _ _ h => h))
                        have HB5 := Lib.hid hb5
                        clear hb5 hA5
                        go_wp2_with (at_builtin; go_must (refine wpList_append_lies _ rfl (.tmp 107) (.tmp 109) 24 rfl w4.heap.size 26 i0 _ 2 16 Try.underlying24 hi0 hz0 hz1 hz2 rfl (by omega) _ ((kept (plM c2) (l.take q)).map It.im).length (flat pk ((kept (plM c2) (l.take q)).map It.im)) rfl (HR5.out.alloc _) ⟨w5.heap.size, 0, none⟩ 1 1 (pk (x.k, x.n)) rfl rfl ?c1 ?c2 (by omega) ?c3 ?c4 ?c5 (w5.heap.size + 1) ?c6 ?_))
                        case c1 => exact World.news_of_block (cs := #[.int .i64 x.k, .int .i64 x.n]) (t := 26) (fr := (0, 0)) (alloc_new _ _)
                        case c2 => simp [Value.oneCell', pk]
                        case c3 => unfold maxLen; have := HML.out; omega
                        case c4 => have := HML.out; omega
                        case c5 => have h1 := HBA.out.size; have h2 := HB5.out.size; rw [World.size_alloc]; omega
                        case c6 => simp
                        intro gg cc w6 hro6 hgr6 hat6 hlt6
                        have HRO6 := Lib.hid hro6
                        have HGR6 := Lib.hid hgr6
                        clear hro6 hgr6 hat6 hlt6
                        go_wp2_with fail
                        go_roundw
                        case rel =>
                          have hb6 := HBA.out.trans (HB5.out.mono HBA.out.size)
                          refine ⟨q + 1, by go_num, by omega, ?_, (hb6.alloc hb6.size _).grown HGR6.out (by have := hb6.size; simp; omega) (fun k hk => (HR5.out.lt k hk).1)⟩
                          have e : (kept (plM c2) (l.take (q + 1))).map It.im = (kept (plM c2) (l.take q)).map It.im ++ [(x.k, x.n)] := by rw [HSN.out]; simp [It.im]
                          rw [e]
                          have hro6 := HRO6.out
                          simp only [IRow, flat_snoc, List.length_append, List.length_singleton, List.length_map] at hro6 ⊢
                          exact hro6
                        case measure => simp [intOf]; omega
                    · have he : q = l.length := by omega
                      subst he
                      clear hlt2 hq
                      have hrw := HRQ.out
                      rw [List.take_length] at hrw
                      obtain ⟨ar, cr, hsr⟩ := irow_shape hrw
                      rw [List.length_map, HKN.out] at hsr
                      subst hsr
                      have HRW := Lib.hid hrw
                      clear hrw
                      go_wp2_with fail
                      go_meet
                      obtain ⟨vz, hz1, hz2, hz3, hz4⟩ := HM4.out
                      exact ⟨kept (plM c2) l, next, by rw [HKN.out]; have := HLL.out; omega, by have := HNX.out; omega, owns_base HRW.out hz4.size, vz, hz1.below HBQ.out, hz2, hz3, hz4.trans (HBQ.out.mono hz4.size)⟩
                · have e4 : (c0 == 4) = false := beq_eq_false_iff_ne.2 q4
                  go_wp2_with fail
                  go_meet
                  exact ⟨l, next, by have := HLL.out; omega, by have := HNX.out; omega, HROW3.out, v, HH3.out, HHB.out, HG.out, HBE3.out⟩
        case rest =>
          clear d0 d1 d2 k0 k1 k2 kl HROW HHP HBE HFI HF HROW3 HH3 HBE3 HG HO3 HB3 HNX HLL HHB
          obtain ⟨l2, nx2, hl2, hn2, hrow2, v2, hh2, hhb2, hg2, hbe2⟩ := hcut
          obtain ⟨as2, cs2, hse2⟩ := irow_shape hrow2
          rw [List.length_map] at hse2
          subst hse2
          have HR2 := Lib.hid hrow2
          have HH2 := Lib.hid hh2
          have HG2 := Lib.hid hg2
          have HL2 := Lib.hid hl2
          have HN2 := Lib.hid hn2
          have HHB2 := Lib.hid hhb2
          have HBE2 := Lib.hid hbe2
          clear hrow2 hh2 hg2 hl2 hn2 hhb2 hbe2
          go_wp2_with fail
          refine (len_l HH2.out).mono ?_
          rintro e w4 ⟨rfl, rfl⟩
          go_wp2_with fail
          refine (sorted_l cmp_byKey HH2.out (by have := HL2.out; omega)).mono ?_
          rintro e w4 ⟨s4, o4, rfl, hs4, hp4, hr4, hb4⟩
          have HS4 := Lib.hid hs4
          have HP4 := Lib.hid hp4
          have HR4 := Lib.hid hr4
          have HB4 := Lib.hid hb4
          clear hs4 hp4 hr4 hb4
          have HRS := Lib.hid (rsorted_any _ l2 nx2 w4 HH2.out.2.1 ((HR2.out.its).below HB4.out) (by have := HL2.out; omega))
          go_wp2_with fail
          refine (HRS.out).mono ?_
          rintro e w5 ⟨s5, o5, rfl, hs5, hp5, hr5, hb5⟩
          have e5 : o5 = o4 := srt_unique hs5 HS4.out (hp5.trans HP4.out.symm)
          subst e5
          have hol : (o5.map It.im).length ≤ 1000 := by rw [List.length_map, HP4.out.length_eq]; have := HL2.out; omega
          have HB5 := Lib.hid hb5
          have HSM := Lib.hid (same_any s4 s5 _ _ w5 (HR4.out.its.below hb5) hr5.its hol hol)
          clear hs5 hp5 hr5 hb5 hol
          go_wp2_with fail
          refine (HSM.out).mono ?_
          rintro e w6 ⟨he, hb6⟩
          have he : e = .returned (.bool true) := he.trans (by simp)
          subst he
          have HB6 := Lib.hid hb6
          clear hb6
          go_wp2_with fail
          go_roundg (m.length - (i + 1))
          case rel =>
            have hb46 := (HB4.out.trans (HB5.out.mono HB4.out.size)).trans (HB6.out.mono (by have := HB4.out.size; have := HB5.out.size; omega))
            refine ⟨i + 1, by go_num, by omega, by omega, l2, nx2, HL2.out, HN2.out, ?_, v2, HH2.out.below hb46, HHB2.out, HG2.out, HBE2.out.trans (hb46.mono HBE2.out.size)⟩
            exact (Fr.of_below (S := fun _ => False) hb46).owns HR2.out (fun _ _ h => h)
          case measure => have := HGK.out; omega
      · have he : i = m.length := by omega
        subst he
        obtain ⟨asl, csl, hse⟩ := irow_shape hrow
        rw [List.length_map] at hse
        subst hse
        have HROW := Lib.hid hrow
        have HHP := Lib.hid hh
        have HG := Lib.hid hg
        have HHB := Lib.hid hhb
        have HBE := Lib.hid hbe
        have HLL := Lib.hid hll
        clear hrow hh hg hhb hbe hll hnx hi hlt
        go_wp2_with fail
        refine (popped_any cmp_byKey HHP.out (by have := HLL.out; omega) HBE.out.size).mono ?_
        rintro e w3 ⟨s3, o3, rfl, hs3, hp3, hr3, v3, hh3, hown3, hfr3⟩
        have HS3 := Lib.hid hs3
        have HP3 := Lib.hid hp3
        have HR3 := Lib.hid hr3
        have hrw := hfr3.owns HROW.out (HHP.out.apart HROW.out)
        have HB3 := Lib.hid (HBE.out.trans (hfr3.below HBE.out.size (fun k hk h => by
          rcases h with h | h
          · have := HHB.out; omega
          · have := HG.out _ h; omega)))
        have HRS := Lib.hid (rsorted_any _ l next w3 HHP.out.2.1 (IRow.its hrw) (by have := HLL.out; omega))
        clear hs3 hp3 hr3 hh3 hown3 hfr3 hrw
        go_wp2_with fail
        refine (HRS.out).mono ?_
        rintro e w5 ⟨s5, o5, rfl, hs5, hp5, hr5, hb5⟩
        have e5 : o5 = o3 := srt_unique hs5 HS3.out (hp5.trans HP3.out.symm)
        subst e5
        have hol : (o5.map It.im).length ≤ 1000 := by rw [List.length_map, HP3.out.length_eq]; have := HLL.out; omega
        have HB5 := Lib.hid hb5
        have HSM := Lib.hid (same_any s3 s5 _ _ w5 (HR3.out.its.below hb5) hr5.its hol hol)
        clear hs5 hp5 hr5 hb5 hol
        go_wp2_with fail
        refine (HSM.out).mono ?_
        rintro e w6 ⟨he, hb6⟩
        have he : e = .returned (.bool true) := he.trans (by simp)
        subst he
        have HB6 := Lib.hid hb6
        clear hb6
        go_wp2_with fail
        go_ret
        exact ⟨rfl, (HB3.out.trans (HB5.out.mono HB3.out.size)).trans (HB6.out.mono (by have := HB3.out.size; have := HB5.out.size; omega))⟩
  · have hl : (100 : Int) < (m.length : Int) := by omega
    obtain ⟨i0, hi0, hz0, hz1, hz2⟩ := info_parts info26
    go_enter Try.func7, Try.ntmps7
    go_wp2_with (go_at_call 11; ((with_reducible refine (HW.out).mono ?_); rintro e w1 ⟨rfl, hb⟩; have HB := Lib.hid hb; clear hb))
    go_ret
    exact ⟨rfl, HB.out⟩

end Go.Proofs.Ytlhgoklojhgfeaa
