/- An argument of type []Op, opened: it reads as a list of three numbers each; the predicate of HeapPlays.
   Conditions: none. -/
import Derived.Test.YtlhgoklojhgfeaaT
import Derived.Test.YtlhgoklojhgfeaaO
namespace Go.Proofs.Ytlhgoklojhgfeaa
open Go.RowKit Go.HeapW Go.HeapP
open Go.ChangeShapes Go.WideShapes Go.ChangeAt Go.Deep
set_option linter.unusedSimpArgs false
set_option linter.unusedVariables false

/-- What to do, a key, a name. -/
abbrev Op3 := Int × Int × Int

def Opsl (w : World) (v : Value) (m : List Op3) : Prop :=
  ∃ a cap, v = .slice a m.length cap ∧ (m = [] ∨ ∃ b off, a = some ⟨b, off, none⟩ ∧ b < w.heap.size ∧
    ∀ i p, m[i]? = some p → w.cell? ⟨b, off + i * 3, none⟩ = some (.int .i64 p.1) ∧ w.cell? ⟨b, off + i * 3 + 1, none⟩ = some (.int .i64 p.2.1) ∧ w.cell? ⟨b, off + i * 3 + 2, none⟩ = some (.int .i64 p.2.2))

theorem Opsl.below {w w' : World} {v : Value} {m : List Op3} (h : Opsl w v m) (hb : Below w.heap.size w w') : Opsl w' v m := by
  obtain ⟨a, cap, hv, h⟩ := h
  refine ⟨a, cap, hv, h.imp id ?_⟩
  rintro ⟨b, off, ha, hlt, hc⟩
  refine ⟨b, off, ha, Nat.lt_of_lt_of_le hlt hb.size, fun i p hp => ?_⟩
  rw [hb.cell (p := ⟨b, off + i * 3, none⟩) hlt, hb.cell (p := ⟨b, off + i * 3 + 1, none⟩) hlt, hb.cell (p := ⟨b, off + i * 3 + 2, none⟩) hlt]
  exact hc i p hp
theorem opsl_cells {w w' : World} {a : Option Addr} {n cap : Nat} {m : List Op3} {i : Nat} {p : Op3} (h : Opsl w (.slice a n cap) m) (hb : Below w.heap.size w w') (hp : m[i]? = some p) :
    ∃ b off, a = some ⟨b, off, none⟩ ∧ w'.cell? ⟨b, off + i * 3, none⟩ = some (.int .i64 p.1) ∧ w'.cell? ⟨b, off + i * 3 + 1, none⟩ = some (.int .i64 p.2.1) ∧ w'.cell? ⟨b, off + i * 3 + 2, none⟩ = some (.int .i64 p.2.2) := by
  obtain ⟨a', cap', hv, h | ⟨b, off, ha, hlt, hc⟩⟩ := h.below hb
  · subst h; simp at hp
  · simp only [Value.slice.injEq] at hv
    obtain ⟨rfl, _, _⟩ := hv
    exact ⟨b, off, ha, hc i p hp⟩

theorem open_ops {H : Type} {enc : TypeId × Value → H} {W : World} {a : Option Addr} {len cap fuel : Nat} {x : DataW H × List MemPlace}
    (h : DataW.trod enc Try.prog W 0 (fun _ => true) true fuel 51 [.slice a len cap] = some x) : ∃ m : List Op3, m.length = len ∧ len ≤ maxLen ∧ Opsl W (.slice a len cap) m := by
  rcases open_slice Try.underlying51 h with ⟨hcs, _⟩ | ⟨ad, l, c, m, n, D, Pl, hcs, hb, hl, hm, hmm, _, hx⟩
  · simp at hcs
    obtain ⟨rfl, rfl, rfl⟩ := hcs
    exact ⟨[], rfl, by unfold maxLen; omega, none, 0, rfl, Or.inl rfl⟩
  · simp at hcs
    obtain ⟨rfl, rfl, rfl⟩ := hcs
    have hlm : len ≤ m := by rw [hmm]; simp; exact hl
    have ce : Try.prog.cellsOf 53 = 3 := by kernel_rfl
    have each : ∀ i, i < len → ∃ p : Op3, W.cell? (ad.add (i * 3)) = some (.int .i64 p.1) ∧ W.cell? (ad.add (i * 3 + 1)) = some (.int .i64 p.2.1) ∧ W.cell? (ad.add (i * 3 + 2)) = some (.int .i64 p.2.2) := by
      intro i hi
      obtain ⟨cs', h1, h2⟩ := hx i (by omega)
      rw [ce] at h1
      obtain ⟨_, hlen, hcell⟩ := World.cells?_some h1
      obtain ⟨xs, k, hk, hxy, _, hxl, hf⟩ := DataW.trod_struct Try.underlying53 h2
      match xs, hxl, cs', hlen with
      | [y0, y1], _, [v0, v1, v2], _ =>
        have g0 := hf 0 _ rfl
        have g1 := hf 1 _ rfl
        have e0 := hcell 0 (by omega)
        have e1 := hcell 1 (by omega)
        have e2 := hcell 2 (by omega)
        rw [add_add] at e0 e1 e2
        have c3 : Try.prog.cellsOf 3 = 1 := by kernel_rfl
        have c26 : Try.prog.cellsOf 26 = 2 := by kernel_rfl
        simp [c3, c26] at g0 g1
        obtain ⟨z0, z1, k', _, _, t0, t1⟩ := trod_struct2 Try.underlying26 g1
        simp [c3] at t0 t1
        obtain ⟨i0, f0, _, _⟩ := DataW.trod_int Try.underlying3 g0
        obtain ⟨i1, f1, _, _⟩ := DataW.trod_int Try.underlying3 t0
        obtain ⟨i2, f2, _, _⟩ := DataW.trod_int Try.underlying3 t1
        simp at f0 f1 f2
        subst f0 f1 f2
        exact ⟨(i0, i1, i2), by simpa using e0, by simpa using e1, by simpa using e2⟩
    obtain ⟨f, hf⟩ := Go.Deep.choose_lt each
    refine ⟨(List.range len).map f, by simp, Nat.le_trans hl hm, some ad, cap, by simp, ?_⟩
    by_cases h0 : len = 0
    · left
      rw [h0]
      rfl
    · right
      obtain ⟨b, off, spot⟩ := ad
      have hspot : spot = none := by
        have := (hf 0 (by omega)).1
        simp only [Nat.zero_mul] at this
        simpa [Addr.add] using World.cell?_spot this
      subst hspot
      refine ⟨b, off, rfl, World.block_lt_of_cell? W _ (by have := (hf 0 (by omega)).1; rw [add_plain] at this; exact this), fun i p hp => ?_⟩
      have hi : i < len := by have := lt_of_get hp; simpa using this
      have e : p = f i := by
        rw [List.getElem?_map, List.getElem?_range hi] at hp
        exact (Option.some.inj hp).symm
      have := hf i hi
      rw [add_plain, add_plain, add_plain, ← Nat.add_assoc, ← Nat.add_assoc] at this
      rw [e]
      exact this

def plM (on k n : Int) : Bool := n.tmod 3 == on.tmod 3

theorem plM_any (c0 c1 on k n : Int) (kb : Nat) (w : World) (hk : w.heap[kb]? = some (.cells #[.int .i64 c0, .int .i64 c1, .int .i64 on] 53 (0, 0))) :
    Calls Try.prog 28 #[.agg #[.int .i64 k, .int .i64 n], .pointer (some ⟨kb, 0, none⟩)] w fun e w' => e = .returned (.bool (plM on k n)) ∧ Below w.heap.size w w' := by
  have h0 : w.cell? ⟨kb, 2, none⟩ = some (.int .i64 on) := (cell_of_blk hk 2).trans rfl
  have hl := lt_of_block hk
  have hB := Lib.hid ((Below.refl w.heap.size w).alloc (Nat.le_refl _) (.cells #[.int .i64 k, .int .i64 n] 26))
  clear hk
  go_enter Try.func28, Try.ntmps28
  go_wp2
  go_ret
  exact ⟨rfl, hB.out⟩

theorem callFunc28 (args : Array Value) (w : World) : Sem.run Try.prog (callFunc 28 args) w = .ok (.enter 28 args) w := by kernel_rfl
theorem mat_pl {w : World} {kb : Nat} {c0 c1 on : Int} (hk : w.heap[kb]? = some (.cells #[.int .i64 c0, .int .i64 c1, .int .i64 on] 53 (0, 0))) : Mat w 28 kb (plM on) :=
  ⟨callFunc28, fun k n wr hb => plM_any c0 c1 on k n kb wr ((hb.block kb (lt_of_block hk)).trans hk)⟩

end Go.Proofs.Ytlhgoklojhgfeaa
