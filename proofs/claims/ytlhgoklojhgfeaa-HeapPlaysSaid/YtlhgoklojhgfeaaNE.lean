/- The walk of HeapNil: it returns true whatever the items.
   Conditions: none. -/
import Derived.Test.YtlhgoklojhgfeaaR
namespace Go.Proofs.Ytlhgoklojhgfeaa
open Go.RowKit Go.HeapW Go.HeapP
set_option linter.unusedSimpArgs false
set_option linter.unusedVariables false

theorem push_nil (k n : Int) (w : World) : Calls Try.prog 16 #[.pointer none, .agg #[.int .i64 k, .int .i64 n]] w fun e w' => e = .returned (.tuple #[]) ∧ Below w.heap.size w w' := by
  go_enter Try.func16, Try.ntmps16
  go_wp2
  refine bodyPost_ret (results_none rfl _ _ _) rfl ?_
  exact ⟨rfl, (Below.refl _ _).alloc (Nat.le_refl _) _⟩

def NilL (w : World) (n : Nat) (c : Value) (wr : World) : Prop := ∃ i : Nat, c = .int .i64 i ∧ i ≤ n ∧ Below w.heap.size w wr

set_option maxHeartbeats 4000000 in
set_option maxRecDepth 100000 in
theorem nil_walk (a : Option Addr) (cap : Nat) (m : List Im) (w : World) (hI : Its w (.slice a m.length cap) m) (hbig : m.length ≤ 9223372036854775807) :
    Calls Try.prog 8 #[.slice a m.length cap] w fun e w' => e = .returned (.bool true) ∧ Below w.heap.size w w' := by
  have HW := Lib.hid (awake_any w)
  have hmx : (m.length : Int) ≤ 9223372036854775807 := by omega
  have HI := Lib.hid hI
  clear hI hbig
  by_cases hlen : m.length ≤ 100
  · have hl : (m.length : Int) ≤ 100 := by omega
    have hld : decide ((100 : Int) < (m.length : Int)) = false := decide_eq_false (by omega)
    clear hmx
    go_enter Try.func8, Try.ntmps8
    go_wp2_with (go_at_call 11; ((with_reducible refine (HW.out).mono ?_); rintro e w1 ⟨rfl, hb⟩; have HB := Lib.hid hb; clear hb))
    go_loopw [18] (fun c wr => NilL w m.length c wr) (fun c _ => m.length - (intOf c).toNat)
    case atStart => exact ⟨0, rfl, Nat.zero_le _, HB.out⟩
    case round =>
      obtain ⟨i, rfl, hi, hbe⟩ := hrel
      have HBE := Lib.hid hbe
      clear hbe
      by_cases hlt : i < m.length
      · obtain ⟨p, hp⟩ : ∃ p, m[i]? = some p := ⟨_, List.getElem?_eq_getElem hlt⟩
        obtain ⟨b, off, ha, c0, c1⟩ := its_cells HI.out HBE.out hp
        subst ha
        have hil : (i : Int) < m.length := by omega
        have hin0 : (0 : Int) ≤ i := by omega
        have hbl' : b < wr.heap.size := World.block_lt_of_cell? wr _ c0
        have HP := Lib.hid hp
        clear hp hi
        go_wp2_with fail
        refine (push_nil p.1 p.2 _).mono ?_
        rintro e w2 ⟨rfl, hb2⟩
        have HB2 := Lib.hid hb2
        clear hb2
        go_wp2_with fail
        go_roundw
        case rel =>
          have h1 := HBE.out.alloc HBE.out.size (.cells #[.int .i64 p.1, .int .i64 p.2] 26)
          exact ⟨i + 1, by go_num, by omega, h1.trans (HB2.out.mono h1.size)⟩
        case measure => simp [intOf]; omega
      · have he : i = m.length := by omega
        subst he
        clear hlt hi
        go_wp2_with fail
        -- none.Pop, none.Peek
        refine (pop_nil wr).mono ?_
        rintro e w2 ⟨rfl, hb2⟩
        have HA2 := Lib.hid (HBE.out.trans (hb2.mono HBE.out.size))
        clear hb2
        have HA3 := Lib.hid (HA2.out.alloc HA2.out.size (.cells #[.int .i64 0, .int .i64 0] 26))
        have HK2 := Lib.hid (alloc_new w2 (.cells #[.int .i64 0, .int .i64 0] 26))
        go_wp2_with fail
        refine (peek_nil _).mono ?_
        rintro e w3 ⟨rfl, hb3⟩
        have HA4 := Lib.hid (HA3.out.trans (hb3.mono HA3.out.size))
        have HK3 := Lib.hid ((Fr.of_below (S := fun _ => False) hb3).keep HK2.out (fun h => h))
        clear hb3
        have HA5 := Lib.hid (HA4.out.alloc HA4.out.size (.cells #[.int .i64 0, .int .i64 0] 26))
        have HK4 := Lib.hid (alloc_keep HK3.out (.cells #[.int .i64 0, .int .i64 0] 26))
        have HL4 := Lib.hid (alloc_new w3 (.cells #[.int .i64 0, .int .i64 0] 26))
        go_wp2_with fail
        refine (pushed_any _ m _ (HI.out.below HA5.out) (by omega)).mono ?_
        rintro e w4 ⟨rfl, vh, hh, _, _, hb4⟩
        simp only [World.size_alloc] at hh
        have HH := Lib.hid hh
        have HA6 := Lib.hid (HA5.out.trans (hb4.mono HA5.out.size))
        have hK5 := (Fr.of_below (S := fun _ => False) hb4).keep HK4.out (fun h => h)
        have hL5 := (Fr.of_below (S := fun _ => False) hb4).keep HL4.out (fun h => h)
        have k0 : w4.cell? ⟨w2.heap.size, 0, none⟩ = some (.int .i64 0) := (cell_of_blk hK5 0).trans rfl
        have k1 : w4.cell? ⟨w2.heap.size, 1, none⟩ = some (.int .i64 0) := (cell_of_blk hK5 1).trans rfl
        have j0 : w4.cell? ⟨w3.heap.size, 0, none⟩ = some (.int .i64 0) := (cell_of_blk hL5 0).trans rfl
        have j1 : w4.cell? ⟨w3.heap.size, 1, none⟩ = some (.int .i64 0) := (cell_of_blk hL5 1).trans rfl
        clear hh hb4 hK5 hL5
        go_wp2_with fail
        refine (new_nil w4).mono ?_
        rintro e w5 ⟨rfl, hw⟩
        subst hw
        go_wp2_with fail
        refine (len_nil w4).mono ?_
        rintro e w5 ⟨rfl, hw⟩
        subst hw
        go_wp2_with fail
        refine (sorted_nil w4).mono ?_
        rintro e w5 ⟨rfl, hw⟩
        subst hw
        go_wp2_with fail
        refine (remove_nilh _ w4).mono ?_
        rintro e w5 ⟨rfl, hw⟩
        subst hw
        go_wp2_with fail
        refine (remove_nilf _ w4).mono ?_
        rintro e w5 ⟨rfl, hw⟩
        subst hw
        go_wp2_with fail
        refine (len_l HH.out).mono ?_
        rintro e w5 ⟨he, hw⟩
        rw [numb_length] at he
        subst he
        subst hw
        go_wp2_with fail
        go_ret
        exact ⟨rfl, HA6.out⟩
  · have hl : (100 : Int) < (m.length : Int) := by omega
    go_enter Try.func8, Try.ntmps8
    go_wp2_with (go_at_call 11; ((with_reducible refine (HW.out).mono ?_); rintro e w1 ⟨rfl, hb⟩; have HB := Lib.hid hb; clear hb))
    go_ret
    exact ⟨rfl, HB.out⟩

end Go.Proofs.Ytlhgoklojhgfeaa
