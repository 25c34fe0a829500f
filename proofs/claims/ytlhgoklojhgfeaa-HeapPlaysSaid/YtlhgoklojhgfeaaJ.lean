/- Slices of items; the contracts of pushed and popped.
   Conditions: at most 1,000 items. -/
import Derived.Test.YtlhgoklojhgfeaaI
namespace Go.Proofs.Ytlhgoklojhgfeaa
open Go.RowKit Go.HeapW Go.HeapP
set_option linter.unusedSimpArgs false
set_option linter.unusedVariables false

/-- An item: key, name. -/
abbrev Im := Int × Int
def pk (p : Im) : List Value := [.int .i64 p.1, .int .i64 p.2]
theorem pk_length (p : Im) : (pk p).length = 2 := rfl
def It.im (x : It) : Im := (x.k, x.n)

/-- The slice v reads as m. -/
def Its (w : World) (v : Value) (m : List Im) : Prop :=
  ∃ a cap, v = .slice a m.length cap ∧ (m = [] ∨ ∃ b off, a = some ⟨b, off, none⟩ ∧ b < w.heap.size ∧
    ∀ i p, m[i]? = some p → w.cell? ⟨b, off + i * 2, none⟩ = some (.int .i64 p.1) ∧ w.cell? ⟨b, off + i * 2 + 1, none⟩ = some (.int .i64 p.2))

theorem Its.below {w w' : World} {v : Value} {m : List Im} (h : Its w v m) (hb : Below w.heap.size w w') : Its w' v m := by
  obtain ⟨a, cap, hv, h⟩ := h
  refine ⟨a, cap, hv, h.imp id ?_⟩
  rintro ⟨b, off, ha, hlt, hc⟩
  refine ⟨b, off, ha, Nat.lt_of_lt_of_le hlt hb.size, fun i p hp => ?_⟩
  rw [hb.cell (p := ⟨b, off + i * 2, none⟩) hlt, hb.cell (p := ⟨b, off + i * 2 + 1, none⟩) hlt]
  exact hc i p hp

/-- A row of items of the call's own. -/
abbrev IRow (w : World) (base : Nat) (v : Value) (m : List Im) : Prop := w.ownsRow base 26 2 v m.length (flat pk m)

theorem IRow.its {w : World} {base : Nat} {v : Value} {m : List Im} (h : IRow w base v m) : Its w v m := by
  rcases h.2 with ⟨rfl, h0⟩ | ⟨g, cap, cur, rfl, hb, hg, r⟩
  · exact ⟨none, 0, by rw [h0], Or.inl (List.length_eq_zero_iff.1 h0)⟩
  · refine ⟨_, cap, rfl, Or.inr ⟨g, 0, rfl, lt_of_block hg, fun i p hp => ?_⟩⟩
    have hi := lt_of_get hp
    rw [Nat.zero_add]
    constructor
    · rw [h.cellAt (i * 2) (by omega)]; exact (flat_get pk 2 pk_length m i 0 p (by omega) hp).trans rfl
    · rw [h.cellAt (i * 2 + 1) (by omega)]; exact (flat_get pk 2 pk_length m i 1 p (by omega) hp).trans rfl

/-- The items with their numbers. -/
def numb (m : List Im) : List It := m.zipIdx.map fun q => ⟨q.1.1, q.1.2, (q.2 : Int)⟩
theorem numb_snoc (m : List Im) (p : Im) : numb (m ++ [p]) = numb m ++ [⟨p.1, p.2, (m.length : Int)⟩] := by simp [numb, List.zipIdx_append]
theorem numb_length (m : List Im) : (numb m).length = m.length := by simp [numb]
theorem numb_im (m : List Im) : (numb m).map It.im = m := by
  simp only [numb, List.map_map]
  have : (It.im ∘ fun q : Im × Nat => (⟨q.1.1, q.1.2, (q.2 : Int)⟩ : It)) = Prod.fst := by funext q; rfl
  rw [this]
  simp
theorem take_snoc' {α : Type} {m : List α} {i : Nat} {p : α} (h : m[i]? = some p) : m.take (i + 1) = m.take i ++ [p] := by
  rw [List.take_add_one, h]; rfl

theorem Heap.base {w : World} {hb base base' f : Nat} {σ : Int → Int} {v : Value} {l : List It} {next : Int} (h : Heap w hb base f σ v l next) (hb' : base' ≤ base) : Heap w hb base' f σ v l next := by
  obtain ⟨hO, hN, xs, hR, hF, hP⟩ := h
  refine ⟨hO, hN, xs, ⟨hR.1, ?_⟩, hF, hP⟩
  rcases hR.2 with hn | ⟨g, cap, cur, rfl, hb, r⟩
  · exact Or.inl hn
  · exact Or.inr ⟨g, cap, cur, rfl, Nat.le_trans hb' hb, r⟩

/-- A heap of the call's own: nothing that was there when w stood is its. -/
def Mine (w wr : World) (hb base f : Nat) (σ : Int → Int) (l : List It) (next : Int) : Prop :=
  ∃ v, Heap wr hb base f σ v l next ∧ w.heap.size ≤ hb ∧ (∀ g, v.ownBlock = some g → w.heap.size ≤ g) ∧ Below w.heap.size w wr

theorem Mine.push {w wr w' : World} {hb base f : Nat} {σ : Int → Int} {l l' : List It} {next next' : Int} {v v' : Value} (h : Heap wr hb base f σ v l next) (hb0 : w.heap.size ≤ hb) (hg : ∀ g, v.ownBlock = some g → w.heap.size ≤ g) (hB : Below w.heap.size w wr)
    (h' : Heap w' hb base f σ v' l' next') (ho : Own wr v v') (hf : Fr (foot hb v) wr w') : Mine w w' hb base f σ l' next' := by
  refine ⟨v', h', hb0, ?_, ?_⟩
  · intro g hg'
    rcases ho g hg' with h1 | h1
    · exact hg g h1
    · have := hB.size; omega
  · refine hB.trans (hf.below hB.size ?_)
    intro k hk hs
    rcases hs with rfl | hs
    · omega
    · have := hg k hs; omega

def PushedRel (w : World) (m : List Im) (s : Value) (wr : World) : Prop :=
  ∃ i : Nat, s = .int .i64 i ∧ i ≤ m.length ∧ Mine w wr w.heap.size w.heap.size 23 (fun k => k) (numb (m.take i)) i

set_option maxHeartbeats 2000000 in
theorem pushed_any (v : Value) (m : List Im) (w : World) (hI : Its w v m) (hm : m.length ≤ 1000) :
    Calls Try.prog 13 #[v] w fun e w' => e = .returned (.pointer (some ⟨w.heap.size, 0, none⟩)) ∧ Mine w w' w.heap.size w.heap.size 23 (fun k => k) (numb m) m.length := by
  obtain ⟨a, cap, rfl, hI⟩ := hI
  have HN := Lib.hid (new_l 23 (fun k => k) w.heap.size w)
  have HI := Lib.hid hI
  have hmi : (m.length : Int) ≤ 1000 := by omega
  clear hI hm
  go_enter Try.func13, Try.ntmps13
  go_wp2_with (go_at_call 14; ((with_reducible refine (HN.out).mono ?_); rintro e w1 ⟨rfl, hh, hb⟩; have HH := Lib.hid hh; have HB := Lib.hid hb; clear hh hb))
  go_loopw [9] (fun s wr => PushedRel w m s wr) (fun s _ => m.length - (intOf s).toNat)
  case atStart => exact ⟨0, rfl, Nat.zero_le _, _, HH.out, Nat.le_refl _, fun g h => by simp [Value.ownBlock] at h, HB.out⟩
  case round =>
    obtain ⟨i, rfl, hi, vh, hh, h0, hg, hB⟩ := hrel
    have HH' := Lib.hid hh
    have HG := Lib.hid hg
    have HB' := Lib.hid hB
    clear hh hg hB h0
    by_cases hlt : i < m.length
    · obtain ⟨p, hp⟩ : ∃ p, m[i]? = some p := ⟨_, List.getElem?_eq_getElem hlt⟩
      rcases HI.out with h0 | ⟨b, off, rfl, hbl, hcl⟩
      · rw [h0] at hlt; simp at hlt
      obtain ⟨c0, c1⟩ := hcl i p hp
      rw [← HB'.out.cell (p := ⟨b, off + i * 2, none⟩) hbl] at c0
      rw [← HB'.out.cell (p := ⟨b, off + i * 2 + 1, none⟩) hbl] at c1
      have hil : (i : Int) < m.length := by omega
      have hi0 : (0 : Int) ≤ i := by omega
      have hbl' : b < wr.heap.size := Nat.lt_of_lt_of_le hbl HB'.out.size
      have HP := Lib.hid hp
      have HA := Lib.hid (HH'.out.below ((Below.refl _ wr).alloc (Nat.le_refl _) (.cells #[.int .i64 p.1, .int .i64 p.2] 26)))
      have hpu := Lib.hid (push_l cmp_byKey HA.out (by rw [numb_length, List.length_take]; omega) (by omega) (by have := HB'.out.size; simp; omega) p.1 p.2)
      clear hcl hp hbl hi
      go_wp2_with (go_at_call 16; ((with_reducible refine (hpu.out).mono ?_); rintro e w2 ⟨rfl, hx⟩; have HX := Lib.hid hx; clear hx))
      go_roundw
      case rel =>
        obtain ⟨v', hh', hown, hfr⟩ := HX.out
        refine ⟨i + 1, by go_num, by omega, ?_⟩
        have hnum : numb (m.take (i + 1)) = numb (m.take i) ++ [⟨p.1, p.2, (i : Int)⟩] := by
          rw [take_snoc' HP.out, numb_snoc, List.length_take, Nat.min_eq_left (by omega)]
        rw [hnum]
        exact Mine.push HA.out (Nat.le_refl _) HG.out (HB'.out.alloc HB'.out.size _) hh' hown hfr
      case measure => simp [intOf]; omega
    · have he : i = m.length := by omega
      subst he
      clear hlt hi
      go_wp2_with fail
      go_ret
      refine ⟨rfl, ?_⟩
      have := HH'.out
      rw [List.take_length] at this
      exact ⟨vh, this, Nat.le_refl _, HG.out, HB'.out⟩

end Go.Proofs.Ytlhgoklojhgfeaa
