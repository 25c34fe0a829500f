/- The contract of Same: it tells whether two slices of items read alike.
   Conditions: at most 1,000 items each. -/
import Derived.Test.YtlhgoklojhgfeaaK
import Derived.Deep.QuietTactic
import Derived.BigQuiet
namespace Go.Proofs.Ytlhgoklojhgfeaa
open Go.RowKit Go.HeapW Go.HeapP
set_option linter.unusedSimpArgs false
set_option linter.unusedVariables false

def SameRel (w : World) (ma mb : List Im) (s : Value) (wr : World) : Prop := ∃ i : Nat, s = .int .i64 i ∧ i ≤ ma.length ∧ ma.take i = mb.take i ∧ Below w.heap.size w wr

set_option maxHeartbeats 2000000 in
theorem same_any (va vb : Value) (ma mb : List Im) (w : World) (hA : Its w va ma) (hB : Its w vb mb) (hl : ma.length ≤ 1000) (hl2 : mb.length ≤ 1000) :
    Calls Try.prog 31 #[va, vb] w fun e w' => e = .returned (.bool (decide (ma = mb))) ∧ Below w.heap.size w w' := by
  obtain ⟨aa, ca, rfl, hA⟩ := hA
  obtain ⟨ab, cb, rfl, hB⟩ := hB
  by_cases hlen : ma.length = mb.length
  · have hbn : (ma.length : Int) ≤ 1000 := by omega
    have hne : ((ma.length : Int) != (mb.length : Int)) = false := by rw [hlen]; simp
    have HA := Lib.hid hA
    have HB := Lib.hid hB
    have HL := Lib.hid hlen
    clear hA hB hlen hl hl2
    go_enter Try.func31, Try.ntmps31
    go_wp2_with fail
    go_loopw [5] (fun s wr => SameRel w ma mb s wr) (fun s _ => ma.length - (intOf s).toNat)
    case atStart => exact ⟨0, rfl, Nat.zero_le _, rfl, Below.refl _ _⟩
    case round =>
      obtain ⟨i, rfl, hi, ht, hbe⟩ := hrel
      have HT := Lib.hid ht
      have HBE := Lib.hid hbe
      clear ht hbe
      by_cases hlt : i < ma.length
      · obtain ⟨⟨p1, p2⟩, hp⟩ : ∃ p, ma[i]? = some p := ⟨_, List.getElem?_eq_getElem hlt⟩
        obtain ⟨⟨q1, q2⟩, hq⟩ : ∃ q, mb[i]? = some q := ⟨_, List.getElem?_eq_getElem (by have := HL.out; omega)⟩
        rcases HA.out with h0 | ⟨ba, oa, rfl, la, hca⟩
        · rw [h0] at hlt; simp at hlt
        rcases HB.out with h0 | ⟨bb, ob, rfl, lb, hcb⟩
        · rw [h0] at hq; simp at hq
        obtain ⟨c0, c1⟩ := hca i _ hp
        obtain ⟨d0, d1⟩ := hcb i _ hq
        rw [← HBE.out.cell (p := ⟨ba, oa + i * 2, none⟩) la] at c0
        rw [← HBE.out.cell (p := ⟨ba, oa + i * 2 + 1, none⟩) la] at c1
        rw [← HBE.out.cell (p := ⟨bb, ob + i * 2, none⟩) lb] at d0
        rw [← HBE.out.cell (p := ⟨bb, ob + i * 2 + 1, none⟩) lb] at d1
        have hil : (i : Int) < (ma.length : Int) := by omega
        have hil2 : (i : Int) < (mb.length : Int) := by have := HL.out; omega
        have hi0 : (0 : Int) ≤ (i : Int) := by omega
        have HP := Lib.hid hp
        have HQ := Lib.hid hq
        clear hca hcb hp hq la lb hi
        by_cases e1 : p1 = q1
        · subst e1
          by_cases e2 : p2 = q2
          · subst e2
            go_wp2_with fail
            go_quiet (fail)
            go_wp2_with fail
            go_roundw
            case rel =>
              refine ⟨i + 1, by go_num, by omega, ?_, below_drewN HBE.out _⟩
              rw [take_snoc' HP.out, take_snoc' HQ.out, HT.out]
            case measure => simp [intOf]; omega
          · have e2' : (p2 == q2) = false := beq_eq_false_iff_ne.2 e2
            clear e2
            go_wp2_with fail
            go_quiet (fail)
            go_wp2_with fail
            go_ret
            refine ⟨?_, below_drewN HBE.out _⟩
            have hne2 : ¬ ma = mb := by
              intro e
              have h1 := HP.out
              rw [e, HQ.out] at h1
              simp only [Option.some.injEq, Prod.mk.injEq] at h1
              have := h1.2; subst this; simp at e2'
            rw [decide_eq_false hne2]
            rfl
        · have e1' : (p1 == q1) = false := beq_eq_false_iff_ne.2 e1
          clear e1
          go_wp2_with fail
          go_quiet (fail)
          go_wp2_with fail
          go_ret
          refine ⟨?_, below_drewN HBE.out _⟩
          have hne2 : ¬ ma = mb := by
            intro e
            have h1 := HP.out
            rw [e, HQ.out] at h1
            simp only [Option.some.injEq, Prod.mk.injEq] at h1
            have := h1.1; subst this; simp at e1'
          rw [decide_eq_false hne2]
          rfl
      · have he : i = ma.length := by omega
        subst he
        clear hlt hi
        go_wp2_with fail
        go_ret
        refine ⟨?_, HBE.out⟩
        have := HT.out
        rw [List.take_length, HL.out, List.take_length] at this
        rw [decide_eq_true this]
        rfl
  · have hne : ((ma.length : Int) != (mb.length : Int)) = true := by rw [bne_iff_ne]; omega
    have hd : decide (ma = mb) = false := decide_eq_false (fun e => hlen (by rw [e]))
    have HD := Lib.hid hd
    clear hA hB hlen hl hl2 hd
    go_enter Try.func31, Try.ntmps31
    go_wp2_with fail
    go_ret
    exact ⟨by rw [HD.out]; rfl, Below.refl _ _⟩

end Go.Proofs.Ytlhgoklojhgfeaa
