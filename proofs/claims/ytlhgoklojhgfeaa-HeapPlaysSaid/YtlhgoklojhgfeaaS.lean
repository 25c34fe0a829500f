/- The contracts of the reference: First, Without, Sorted.
   Conditions: at most 1,000 items. -/
import Derived.Test.YtlhgoklojhgfeaaNE
namespace Go.Proofs.Ytlhgoklojhgfeaa
open Go.RowKit Go.HeapW Go.HeapP
set_option linter.unusedSimpArgs false
set_option linter.unusedVariables false

/-- a is the place of the first of the least keys, or -1. -/
def FirstOK (m : List Im) (a : Int) : Prop :=
  (m = [] ∧ a = -1) ∨ ∃ (j : Nat) (p : Im), a = j ∧ m[j]? = some p ∧ (∀ (i : Nat) (q : Im), m[i]? = some q → p.1 ≤ q.1) ∧ (∀ (i : Nat) (q : Im), i < j → m[i]? = some q → p.1 < q.1)

theorem first_start : FirstOK [] (-1) := Or.inl ⟨rfl, rfl⟩
theorem get_snoc {α : Type} {m : List α} {p q : α} {i : Nat} (h : (m ++ [p])[i]? = some q) : (i < m.length ∧ m[i]? = some q) ∨ (i = m.length ∧ q = p) := by
  have hi := lt_of_get h
  rw [List.length_append, List.length_singleton] at hi
  rcases Nat.lt_or_ge i m.length with h1 | h1
  · rw [List.getElem?_append_left h1] at h
    exact Or.inl ⟨h1, h⟩
  · have : i = m.length := by omega
    subst this
    simp at h
    exact Or.inr ⟨rfl, h.symm⟩
theorem first_none {m : List Im} {p : Im} (h : m = []) : FirstOK (m ++ [p]) m.length := by
  subst h
  refine Or.inr ⟨0, p, rfl, rfl, fun i q hq => ?_, fun i q hi => by omega⟩
  rcases get_snoc hq with ⟨h1, h2⟩ | ⟨_, rfl⟩
  · simp at h2
  · omega
theorem first_new {m : List Im} {p q : Im} {a : Int} {j : Nat} (h : FirstOK m a) (ha : a = j) (hq : m[j]? = some q) (hlt : p.1 < q.1) : FirstOK (m ++ [p]) m.length := by
  rcases h with ⟨rfl, h1⟩ | ⟨j', q', h1, h2, h3, h4⟩
  · simp at hq
  · have : j' = j := by omega
    subst this
    rw [hq] at h2
    cases h2
    refine Or.inr ⟨m.length, p, rfl, by simp, fun i r hr => ?_, fun i r hi hr => ?_⟩
    · rcases get_snoc hr with ⟨_, h5⟩ | ⟨_, rfl⟩
      · have := h3 i r h5; omega
      · omega
    · rcases get_snoc hr with ⟨_, h5⟩ | ⟨h5, _⟩
      · have := h3 i r h5; omega
      · omega
theorem first_old {m : List Im} {p q : Im} {a : Int} {j : Nat} (h : FirstOK m a) (ha : a = j) (hq : m[j]? = some q) (hle : q.1 ≤ p.1) : FirstOK (m ++ [p]) a := by
  rcases h with ⟨rfl, h1⟩ | ⟨j', q', h1, h2, h3, h4⟩
  · simp at hq
  · have : j' = j := by omega
    subst this
    rw [hq] at h2
    cases h2
    have hj := lt_of_get hq
    refine Or.inr ⟨j', q, ha, by rw [List.getElem?_append_left hj]; exact hq, fun i r hr => ?_, fun i r hi hr => ?_⟩
    · rcases get_snoc hr with ⟨_, h5⟩ | ⟨_, rfl⟩
      · exact h3 i r h5
      · exact hle
    · rcases get_snoc hr with ⟨_, h5⟩ | ⟨h5, _⟩
      · exact h4 i r hi h5
      · omega
theorem first_lt {m : List Im} {a : Int} (h : FirstOK m a) (h0 : a < 0) : m = [] ∧ a = -1 := by
  rcases h with h | ⟨j, p, h1, _⟩
  · exact h
  · omega
theorem first_ge {m : List Im} {a : Int} (h : FirstOK m a) (h0 : 0 ≤ a) : ∃ (j : Nat) (p : Im), a = j ∧ m[j]? = some p := by
  rcases h with ⟨_, h⟩ | ⟨j, p, h1, h2, _⟩
  · omega
  · exact ⟨j, p, h1, h2⟩

def FirstRel (w : World) (m : List Im) (s c : Value) (wr : World) : Prop := ∃ (i : Nat) (a : Int), c = .int .i64 i ∧ s = .int .i64 a ∧ i ≤ m.length ∧ FirstOK (m.take i) a ∧ Below w.heap.size w wr

set_option maxHeartbeats 4000000 in
theorem first_any (v : Value) (m : List Im) (w : World) (hI : Its w v m) (hl : m.length ≤ 1000) :
    Calls Try.prog 26 #[v] w fun e w' => (∃ a : Int, e = .returned (.int .i64 a) ∧ FirstOK m a) ∧ Below w.heap.size w w' := by
  obtain ⟨ad, cap, rfl, _⟩ := id hI
  have HI := Lib.hid hI
  have hbl : (m.length : Int) ≤ 1000 := by omega
  clear hI hl
  go_enter Try.func26, Try.ntmps26
  go_wp2_with fail
  go_loopw [3, 4] (fun s c wr => FirstRel w m s c wr) (fun _ c _ => m.length - (intOf c).toNat)
  case atStart => exact ⟨0, -1, rfl, rfl, Nat.zero_le _, first_start, Below.refl _ _⟩
  case round =>
    obtain ⟨i, a, rfl, rfl, hi, hf, hbe⟩ := hrel
    have HF := Lib.hid hf
    have HBE := Lib.hid hbe
    clear hf hbe
    by_cases hlt : i < m.length
    · obtain ⟨p, hp⟩ : ∃ p, m[i]? = some p := ⟨_, List.getElem?_eq_getElem hlt⟩
      have hsn := take_snoc' hp
      have htl : (m.take i).length = i := by rw [List.length_take]; omega
      have hil : (i : Int) < (m.length : Int) := by omega
      have hin0 : (0 : Int) ≤ (i : Int) := by omega
      have HSN := Lib.hid hsn
      have HTL := Lib.hid htl
      have HP := Lib.hid hp
      clear hsn htl hp hi
      by_cases ha : a < 0
      · have hd : decide (a < 0) = true := decide_eq_true ha
        have h0 := first_lt HF.out ha
        have H0 := Lib.hid h0.1
        clear h0 ha
        go_wp2_with fail
        go_quiet (fail)
        go_wp2_with fail
        go_roundw
        case rel =>
          refine ⟨i + 1, (i : Int), by go_num, rfl, by omega, ?_, below_drewN HBE.out _⟩
          have h1 := first_none (p := p) H0.out
          rw [HTL.out] at h1
          rw [HSN.out]
          exact h1
        case measure => simp [intOf]; omega
      · have hd : decide (a < 0) = false := decide_eq_false ha
        obtain ⟨j, q, rfl, hq⟩ := first_ge HF.out (by omega)
        have hqj := lt_of_get hq
        rw [HTL.out] at hqj
        have hqm : m[j]? = some q := by rwa [List.getElem?_take_of_lt hqj] at hq
        obtain ⟨b, off, hb0, c0, c1⟩ := its_cells HI.out HBE.out HP.out
        obtain ⟨b', off', hb0', d0, d1⟩ := its_cells HI.out HBE.out hqm
        subst hb0
        obtain ⟨rfl, rfl⟩ : b' = b ∧ off' = off := by simpa using hb0'.symm
        have hjl : (j : Int) < (m.length : Int) := by omega
        have hj0 : (0 : Int) ≤ (j : Int) := by omega
        have HQ := Lib.hid hq
        clear hq hqm hqj ha hb0' hd
        have hd : decide ((j : Int) < 0) = false := decide_eq_false (by omega)
        by_cases hk : p.1 < q.1
        · have hd2 : decide (p.1 < q.1) = true := decide_eq_true hk
          have HK := Lib.hid hk
          clear hk
          go_wp2_with fail
          go_quiet (fail)
          go_wp2_with fail
          go_roundw
          case rel =>
            refine ⟨i + 1, (i : Int), by go_num, rfl, by omega, ?_, below_drewN HBE.out _⟩
            have h1 := first_new HF.out rfl HQ.out HK.out
            rw [HTL.out] at h1
            rw [HSN.out]
            exact h1
          case measure => simp [intOf]; omega
        · have hd2 : decide (p.1 < q.1) = false := decide_eq_false hk
          have HK := Lib.hid hk
          clear hk
          go_wp2_with fail
          go_quiet (fail)
          go_wp2_with fail
          go_roundw
          case rel =>
            refine ⟨i + 1, (j : Int), by go_num, rfl, by omega, ?_, below_drewN HBE.out _⟩
            have h1 := first_old HF.out rfl HQ.out (by have := HK.out; omega)
            rw [HSN.out]
            exact h1
          case measure => simp [intOf]; omega
    · have he : i = m.length := by omega
      subst he
      clear hlt hi
      go_wp2_with fail
      go_ret
      have h1 := HF.out
      rw [List.take_length] at h1
      exact ⟨⟨a, rfl, h1⟩, HBE.out⟩

def WithoutRel (w : World) (m : List Im) (j : Nat) (s c : Value) (wr : World) : Prop := ∃ (i : Nat), c = .int .i64 i ∧ i ≤ m.length ∧ IRow wr w.heap.size s ((m.take i).eraseIdx j) ∧ Below w.heap.size w wr

theorem erase_snoc_ne {m : List Im} {p : Im} {j : Nat} (h : m.length ≠ j) : (m ++ [p]).eraseIdx j = m.eraseIdx j ++ [p] := by
  rcases Nat.lt_or_ge j m.length with h1 | h1
  · exact List.eraseIdx_append_of_lt_length h1 _
  · rw [List.eraseIdx_of_length_le (by simp; omega), List.eraseIdx_of_length_le h1]
theorem erase_snoc_eq {m : List Im} {p : Im} : (m ++ [p]).eraseIdx m.length = m.eraseIdx m.length := by
  rw [List.eraseIdx_append_of_length_le (Nat.le_refl _), Nat.sub_self, List.eraseIdx_of_length_le (Nat.le_refl _)]
  simp

set_option maxHeartbeats 4000000 in
theorem without_any (v : Value) (m : List Im) (j : Nat) (w : World) (hI : Its w v m) (hl : m.length ≤ 1000) (hj : j ≤ 1000) :
    Calls Try.prog 27 #[v, .int .i64 j] w fun e w' => (∃ s, e = .returned s ∧ IRow w' w.heap.size s (m.eraseIdx j)) ∧ Below w.heap.size w w' := by
  obtain ⟨i0, hi0, hz0, hz1, hz2⟩ := info_parts info26
  obtain ⟨ad, cap, rfl, _⟩ := id hI
  have HI := Lib.hid hI
  have hbl : (m.length : Int) ≤ 1000 := by omega
  clear hI hl hj
  go_enter Try.func27, Try.ntmps27
  go_wp2_with fail
  go_loopw [5, 6] (fun s c wr => WithoutRel w m j s c wr) (fun _ c _ => m.length - (intOf c).toNat)
  case atStart => exact ⟨0, rfl, Nat.zero_le _, by simpa using irow_nil _ _, Below.refl _ _⟩
  case round =>
    obtain ⟨i, rfl, hi, hrow, hbe⟩ := hrel
    have HROW := Lib.hid hrow
    have HBE := Lib.hid hbe
    clear hrow hbe
    by_cases hlt : i < m.length
    · obtain ⟨p, hp⟩ : ∃ p, m[i]? = some p := ⟨_, List.getElem?_eq_getElem hlt⟩
      obtain ⟨b, off, hb0, c0, c1⟩ := its_cells HI.out HBE.out hp
      subst hb0
      have hsn := take_snoc' hp
      have htl : (m.take i).length = i := by rw [List.length_take]; omega
      have hil : (i : Int) < (m.length : Int) := by omega
      have hin0 : (0 : Int) ≤ (i : Int) := by omega
      have hel : ((m.take i).eraseIdx j).length ≤ i := by have := List.length_eraseIdx_le (m.take i) j; omega
      have HSN := Lib.hid hsn
      have HTL := Lib.hid htl
      have HEL := Lib.hid hel
      clear hsn htl hp hi hel
      by_cases he : i = j
      · subst he
        go_wp2_with fail
        go_roundw
        case rel =>
          refine ⟨i + 1, by go_num, by omega, ?_, HBE.out⟩
          have e : (m.take (i + 1)).eraseIdx i = (m.take i).eraseIdx i := by
            rw [HSN.out]
            have := erase_snoc_eq (m := m.take i) (p := p)
            rwa [HTL.out] at this
          rw [e]
          exact HROW.out
        case measure => simp [intOf]; omega
      · have hd : ((i : Int) != (j : Int)) = true := by rw [bne_iff_ne]; omega
        have HE := Lib.hid he
        clear he
        go_wp2_with (at_builtin; go_must (refine wpList_append_lies _ rfl (.tmp 16) (.tmp 21) 24 rfl w.heap.size 26 i0 _ 2 16 Try.underlying24 hi0 hz0 hz1 hz2 rfl (by omega) _ ((m.take i).eraseIdx j).length (flat pk ((m.take i).eraseIdx j)) rfl (HROW.out.alloc _) ⟨wr.heap.size, 0, none⟩ 1 1 (pk p) rfl rfl ?c1 ?c2 (by omega) ?c3 ?c4 ?c5 (wr.heap.size + 1) ?c6 ?_))
        case c1 => exact World.news_of_block (cs := #[.int .i64 p.1, .int .i64 p.2]) (t := 26) (fr := (0, 0)) (alloc_new _ _)
        case c2 => simp [Value.oneCell', pk]
        case c3 => unfold maxLen; have := HEL.out; omega
        case c4 => have := HEL.out; omega
        case c5 => have := HBE.out.size; simp; omega
        case c6 => simp
        intro g cap' w3 hro hgr hat hlt2
        have HRO := Lib.hid hro
        have HGR := Lib.hid hgr
        clear hro hgr hat hlt2
        go_wp2_with fail
        go_roundw
        case rel =>
          refine ⟨i + 1, by go_num, by omega, ?_, (HBE.out.alloc HBE.out.size _).grown HGR.out (by have := HBE.out.size; simp; omega) (fun k hk => (HROW.out.lt k hk).1)⟩
          rw [HSN.out, erase_snoc_ne (by rw [HTL.out]; exact HE.out)]
          exact irow_append HRO.out
        case measure => simp [intOf]; omega
    · have he : i = m.length := by omega
      subst he
      clear hlt hi
      go_wp2_with fail
      go_ret
      have h1 := HROW.out
      rw [List.take_length] at h1
      exact ⟨⟨_, rfl, h1⟩, HBE.out⟩

end Go.Proofs.Ytlhgoklojhgfeaa
