/- An argument of type []Item, opened: it reads as a list of items.
   Conditions: none. -/
import Derived.Test.YtlhgoklojhgfeaaJ
import Derived.ProofKit
import Derived.OpenShut
import Derived.Deep.SlicePairs
namespace Go.Proofs.Ytlhgoklojhgfeaa
open Go.RowKit Go.HeapW Go.HeapP
open Go.ChangeShapes Go.WideShapes Go.ChangeAt

theorem open_items {H : Type} {enc : TypeId × Value → H} {W : World} {a : Option Addr} {len cap fuel : Nat} {x : DataW H × List MemPlace}
    (h : DataW.trod enc Try.prog W 0 (fun _ => true) true fuel 24 [.slice a len cap] = some x) : ∃ m : List Im, m.length = len ∧ len ≤ maxLen ∧ Its W (.slice a len cap) m := by
  rcases Go.Deep.open_slice_pairs Try.underlying24 Try.underlying26 (by kernel_rfl) rfl rfl (by kernel_rfl) (by kernel_rfl) h with ⟨hcs, _⟩ | ⟨ad, l, c, m, n, V0, V1, D0, D1, P0, P1, hcs, _, hl, hm, hmm, _, hx⟩
  · simp at hcs
    obtain ⟨rfl, rfl, rfl⟩ := hcs
    exact ⟨[], rfl, by unfold maxLen; omega, none, 0, rfl, Or.inl rfl⟩
  · simp at hcs
    obtain ⟨rfl, rfl, rfl⟩ := hcs
    have hlm : len ≤ m := by rw [hmm]; simp; exact hl
    have each : ∀ i, i < len → ∃ p : Im, W.cell? (ad.add (i * 2)) = some (.int .i64 p.1) ∧ W.cell? (ad.add (i * 2 + 1)) = some (.int .i64 p.2) := by
      intro i hi
      obtain ⟨h1, h2, h3, h4⟩ := hx i (by omega)
      obtain ⟨y0, e0, _, _⟩ := DataW.trod_int Try.underlying3 h3
      obtain ⟨y1, e1, _, _⟩ := DataW.trod_int Try.underlying3 h4
      simp at e0 e1
      exact ⟨(y0, y1), by rw [h1, e0], by rw [h2, e1]⟩
    obtain ⟨f, hf⟩ := Go.Deep.choose_lt each
    refine ⟨(List.range len).map f, by simp, Nat.le_trans hl hm, some ad, cap, by simp, ?_⟩
    by_cases h0 : len = 0
    · left
      rw [h0]
      rfl
    · right
      obtain ⟨b, off, spot⟩ := ad
      have hspot : spot = none := by
        have := (hf 0 (by omega)).1
        simp only [Nat.zero_mul] at this
        simpa [Addr.add] using World.cell?_spot this
      subst hspot
      refine ⟨b, off, rfl, World.block_lt_of_cell? W _ (by have := (hf 0 (by omega)).1; rw [add_plain] at this; exact this), fun i p hp => ?_⟩
      have hi : i < len := by have := lt_of_get hp; simpa using this
      have e : p = f i := by
        rw [List.getElem?_map, List.getElem?_range hi] at hp
        exact (Option.some.inj hp).symm
      have := hf i hi
      rw [add_plain, add_plain, ← Nat.add_assoc] at this
      rw [e]
      exact this

end Go.Proofs.Ytlhgoklojhgfeaa
