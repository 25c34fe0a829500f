/- The contract of awake: the chapter's example holds.
   Conditions: none. -/
import Derived.Test.YtlhgoklojhgfeaaL
namespace Go.Proofs.Ytlhgoklojhgfeaa
open Go.RowKit Go.HeapW Go.HeapP
set_option linter.unusedSimpArgs false
set_option linter.unusedVariables false

def exIn : List Im := [(2, 0), (1, 1), (2, 2), (1, 3)]
def exOut : List Im := [(1, 1), (1, 3), (2, 0), (2, 2)]
def exSrt : List It := [⟨1, 1, 1⟩, ⟨1, 3, 3⟩, ⟨2, 0, 0⟩, ⟨2, 2, 2⟩]
theorem ex_srt : Srt (fun k => k) exSrt := by unfold Srt exSrt; decide
theorem ex_perm : exSrt.Perm (numb exIn) := by unfold exSrt exIn; decide
theorem ex_im : exSrt.map It.im = exOut := by decide

/-- A whole block that is none of the heap's is not in its footprint. -/
theorem Heap.off {w : World} {hb base f : Nat} {σ : Int → Int} {v : Value} {l : List It} {next : Int} (h : Heap w hb base f σ v l next) {g : Nat} {cs : Array Value} {t : TypeId} (hg : w.heap[g]? = some (.cells cs t (0, 0))) (h1 : t ≠ 65) (h2 : t ≠ 67) : ¬ foot hb v g := by
  obtain ⟨hO, hN, xs, hR, hF, hP⟩ := h
  intro hf
  rcases hf with rfl | hf
  · rw [hO] at hg
    simp only [Option.some.injEq, Obj.cells.injEq] at hg
    exact h1 hg.2.1.symm
  · exact owns_ne hR hg h2 hf

def AwakeRel (w : World) (hb bk : Nat) (s : Value) (wr : World) : Prop :=
  ∃ i : Nat, s = .int .i64 i ∧ i ≤ 4 ∧ Mine w wr hb w.heap.size 23 (fun k => k) (numb (exIn.take i)) i ∧ wr.heap[bk]? = some (.cells #[.int .i64 2, .int .i64 1, .int .i64 2, .int .i64 1] 3 (0, 0))

set_option maxHeartbeats 2000000 in
theorem awake_any (w : World) : Calls Try.prog 11 #[] w fun e w' => e = .returned (.bool true) ∧ Below w.heap.size w w' := by
  have HN := Lib.hid (new_l 23 (fun k => k) w.heap.size w)
  go_enter Try.func11, Try.ntmps11
  go_wp2_with (go_at_call 14; ((with_reducible refine (HN.out).mono ?_); rintro e w1 ⟨rfl, hh, hb⟩; have HH := Lib.hid hh; have HB := Lib.hid hb; clear hh hb))
  go_loopw [9] (fun s wr => AwakeRel w w.heap.size w1.heap.size s wr) (fun s _ => 4 - (intOf s).toNat)
  case atStart =>
    have hA := HH.out.below ((Below.refl _ w1).alloc (Nat.le_refl _) (.cells #[.int .i64 2, .int .i64 1, .int .i64 2, .int .i64 1] 3))
    exact ⟨0, rfl, by omega, ⟨_, hA, Nat.le_refl _, fun g h => by simp [Value.ownBlock] at h, HB.out.alloc HB.out.size _⟩, alloc_new w1 _⟩
  case round =>
    obtain ⟨i, rfl, hi, ⟨vh, hh, h0, hg, hB⟩, hblk⟩ := hrel
    have HH' := Lib.hid hh
    have HG := Lib.hid hg
    have HB' := Lib.hid hB
    have HK := Lib.hid hblk
    clear hh hg hB h0 hblk
    by_cases hlt : i < 4
    · obtain ⟨p, hp⟩ : ∃ p, exIn[i]? = some p := ⟨_, List.getElem?_eq_getElem hlt⟩
      have hp2 : p.2 = (i : Int) := by
        rcases (show i = 0 ∨ i = 1 ∨ i = 2 ∨ i = 3 from by omega) with rfl | rfl | rfl | rfl <;> (simp [exIn] at hp; subst hp; rfl)
      have hck : wr.cell? ⟨w1.heap.size, i, none⟩ = some (.int .i64 p.1) := by
        rw [cell_of_blk HK.out]
        rcases (show i = 0 ∨ i = 1 ∨ i = 2 ∨ i = 3 from by omega) with rfl | rfl | rfl | rfl <;> (simp [exIn] at hp; subst hp; rfl)
      have hil : (i : Int) < 4 := by omega
      have hi0 : (0 : Int) ≤ i := by omega
      have HP := Lib.hid hp
      have hpu := push_l cmp_byKey HH'.out (by rw [numb_length, List.length_take]; omega) (by omega) (HB'.out.size) p.1 i
      have HPU := Lib.hid hpu
      have HP2 := Lib.hid hp2
      clear hp hi hpu hp2
      go_wp2_with (go_at_call 16; ((with_reducible refine (HPU.out).mono ?_); rintro e w2 ⟨rfl, hx⟩; have HX := Lib.hid hx; clear hx))
      go_roundw
      case rel =>
        obtain ⟨v', hh', hown, hfr⟩ := HX.out
        refine ⟨i + 1, by go_num, by omega, ?_, hfr.keep HK.out (HH'.out.off HK.out (by decide) (by decide))⟩
        have hnum : numb (exIn.take (i + 1)) = numb (exIn.take i) ++ [⟨p.1, i, (i : Int)⟩] := by
          have hl4 : exIn.length = 4 := rfl
          rw [take_snoc' HP.out, numb_snoc, List.length_take, Nat.min_eq_left (by omega), HP2.out]
        rw [hnum]
        exact Mine.push HH'.out (Nat.le_refl _) HG.out HB'.out hh' hown hfr
      case measure => simp [intOf]; omega
    · have he : i = 4 := by omega
      subst he
      clear hlt hi
      have hpo := Lib.hid (popped_any cmp_byKey HH'.out (by decide) HB'.out.size)
      go_wp2_with (first | (go_at_call 12; ((with_reducible refine (hpo.out).mono ?_); rintro e w2 ⟨s, o, rfl, hs, hp, hr, hx⟩; have HS := Lib.hid hs; have HPP := Lib.hid hp; have HR := Lib.hid hr; have HX := Lib.hid hx; clear hs hp hr hx)) | (go_at_call 31; fail))
      have ho : o = exSrt := srt_unique HS.out ex_srt (HPP.out.trans ex_perm.symm)
      have hrow : IRow w2 wr.heap.size s exOut := by rw [← ex_im, ← ho]; exact HR.out
      have hlit : IRow (w2.alloc (.cells #[.int .i64 1, .int .i64 1, .int .i64 1, .int .i64 3, .int .i64 2, .int .i64 0, .int .i64 2, .int .i64 2] 26)) w2.heap.size (.slice (some ⟨w2.heap.size, 0, none⟩) 4 4) exOut :=
        World.ownsRow_lit w2 _ 4 (Nat.le_refl _) (by unfold maxLen; omega) rfl
      have hsm := Lib.hid (same_any s _ exOut exOut _ (hrow.its.below ((Below.refl _ w2).alloc (Nat.le_refl _) _)) hlit.its (by decide) (by decide))
      refine (hsm.out).mono ?_
      rintro e w3 ⟨rfl, hb3⟩
      have HB3 := Lib.hid hb3
      clear hrow hlit ho hb3
      go_wp2_with fail
      go_ret
      refine ⟨by simp, ?_⟩
      obtain ⟨v', _, _, hfr⟩ := HX.out
      have h1 : Below w.heap.size w w2 := HB'.out.trans (hfr.below HB'.out.size (fun k hk hs => by
        rcases hs with rfl | hs
        · omega
        · have := HG.out k hs; omega))
      exact (h1.alloc h1.size _).trans (HB3.out.mono (by have := h1.size; simp; omega))

end Go.Proofs.Ytlhgoklojhgfeaa
