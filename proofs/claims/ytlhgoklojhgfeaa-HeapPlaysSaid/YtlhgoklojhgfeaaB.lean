/- The heap of items: what its cells are; contracts of the comparison functions, of before and of swap.
   Conditions: the indices lie in the row; the two places of an exchange differ. -/
import Derived.Test.YtlhgoklojhgfeaaProg
import Derived.Test.YtlhgoklojhgfeaaA
import Derived.KernelRfl
namespace Go.Proofs.Ytlhgoklojhgfeaa
open Go.RowKit Go.HeapW

/-- An element of the heap: key, name, number of its push. -/
structure It where
  k : Int
  n : Int
  s : Int
  deriving Inhabited, DecidableEq
def It.cells (x : It) : List Value := [.int .i64 x.k, .int .i64 x.n, .int .i64 x.s]
theorem It.cells_length (x : It) : x.cells.length = 3 := rfl
abbrev fl (xs : List It) : List Value := flat It.cells xs
theorem fl_length (xs : List It) : (fl xs).length = xs.length * 3 := flat_length It.cells 3 It.cells_length xs
/-- What 'before' answers: by the key as the order sees it, else by the push. -/
def bef (σ : Int → Int) (a b : It) : Bool := decide (σ a.k < σ b.k) || (!decide (σ b.k < σ a.k) && decide (a.s < b.s))

theorem fl_set (xs : List It) : ∀ (i : Nat) (x : It), (((fl xs).set (i * 3) (.int .i64 x.k)).set (i * 3 + 1) (.int .i64 x.n)).set (i * 3 + 2) (.int .i64 x.s) = fl (xs.set i x) := by
  induction xs with
  | nil => intro i x; simp [fl, flat]
  | cons y r ih =>
    intro i x
    cases i with
    | zero => simp [fl, flat, It.cells]
    | succ i =>
      have e : (i + 1) * 3 = i * 3 + 1 + 1 + 1 := by omega
      have := ih i x
      simp only [fl, flat, List.flatMap_cons, It.cells, e, List.cons_append, List.nil_append, List.set_cons_succ] at this ⊢
      rw [this]

/-- f compares as σ orders the keys; it writes nothing that was there. -/
def Cmp (f : Nat) (σ : Int → Int) : Prop :=
  (∀ (args : Array Value) (w : World), Sem.run Try.prog (callFunc f args) w = .ok (.enter f args) w) ∧
  ∀ (k n k' n' : Int) (w : World), Calls Try.prog f #[.agg #[.int .i64 k, .int .i64 n], .agg #[.int .i64 k', .int .i64 n']] w fun e w' => e = .returned (.bool (decide (σ k < σ k'))) ∧ Below w.heap.size w w'

theorem byKey_any (k n k' n' : Int) (w : World) :
    Calls Try.prog 23 #[.agg #[.int .i64 k, .int .i64 n], .agg #[.int .i64 k', .int .i64 n']] w fun e w' => e = .returned (.bool (decide (k < k'))) ∧ Below w.heap.size w w' := by
  go_enter Try.func23, Try.ntmps23
  go_wp2
  go_ret
  exact ⟨rfl, ((Below.refl _ _).alloc (Nat.le_refl _) _).alloc (by simp) _⟩
theorem rev_any (k n k' n' : Int) (w : World) :
    Calls Try.prog 15 #[.agg #[.int .i64 k, .int .i64 n], .agg #[.int .i64 k', .int .i64 n']] w fun e w' => e = .returned (.bool (decide (k' < k))) ∧ Below w.heap.size w w' := by
  go_enter Try.func15, Try.ntmps15
  go_wp2
  go_ret
  exact ⟨rfl, ((Below.refl _ _).alloc (Nat.le_refl _) _).alloc (by simp) _⟩
theorem callFunc23 (args : Array Value) (w : World) : Sem.run Try.prog (callFunc 23 args) w = .ok (.enter 23 args) w := by kernel_rfl
theorem callFunc15 (args : Array Value) (w : World) : Sem.run Try.prog (callFunc 15 args) w = .ok (.enter 15 args) w := by kernel_rfl
theorem cmp_byKey : Cmp 23 (fun k => k) := ⟨callFunc23, byKey_any⟩
theorem cmp_rev : Cmp 15 (fun k => -k) := ⟨callFunc15, fun k n k' n' w => (rev_any k n k' n' w).mono fun e w' h => ⟨by rw [h.1]; congr 2; simp, h.2⟩⟩

/-- The heap's own cells: the function, the slice, the number of the next push. -/
abbrev HObj (w : World) (hb : Nat) (lv v : Value) (next : Int) : Prop := w.heap[hb]? = some (.cells #[lv, v, .int .i64 next] 65 (0, 0))
abbrev HRow (w : World) (base : Nat) (v : Value) (xs : List It) : Prop := w.ownsRow base 67 3 v xs.length (fl xs)
abbrev fv (f : Nat) : Value := .func (.func f) #[] #[]

theorem bcell {W w1 : World} (hb : Below W.heap.size W w1) : (∀ b o, b < W.heap.size → w1.cell? ⟨b, o, none⟩ = W.cell? ⟨b, o, none⟩) ∧ (∀ b o, b < W.heap.size → w1.frozen? ⟨b, o, none⟩ = W.frozen? ⟨b, o, none⟩) :=
  ⟨fun b o h => hb.cell (p := ⟨b, o, none⟩) h, fun b o h => hb.frozen (p := ⟨b, o, none⟩) h⟩

/-- A row that holds something lies in a block. -/
theorem row_at {w : World} {base : Nat} {v : Value} {xs : List It} (h : HRow w base v xs) (hx : 0 < xs.length) : ∃ g cap, v = .slice (some ⟨g, 0, none⟩) xs.length cap ∧ xs.length ≤ cap ∧ g < w.heap.size ∧ base ≤ g := by
  rcases h.2 with ⟨_, h0⟩ | ⟨g, cap, cur, rfl, hb, hg, hn, _⟩
  · omega
  · exact ⟨g, cap, rfl, hn, lt_of_block hg, hb⟩

theorem row_cells {w : World} {base g cap : Nat} {xs : List It} (h : HRow w base (.slice (some ⟨g, 0, none⟩) xs.length cap) xs) {i : Nat} {x : It} (hx : xs[i]? = some x) :
    w.cell? ⟨g, i * 3, none⟩ = some (.int .i64 x.k) ∧ w.cell? ⟨g, i * 3 + 1, none⟩ = some (.int .i64 x.n) ∧ w.cell? ⟨g, i * 3 + 2, none⟩ = some (.int .i64 x.s) := by
  have hi : i < xs.length := (List.getElem?_eq_some_iff.1 hx).1
  refine ⟨?_, ?_, ?_⟩
  · rw [h.cellAt (i * 3) (by omega)]; exact (flat_get It.cells 3 It.cells_length xs i 0 x (by omega) hx).trans rfl
  · rw [h.cellAt (i * 3 + 1) (by omega)]; exact (flat_get It.cells 3 It.cells_length xs i 1 x (by omega) hx).trans rfl
  · rw [h.cellAt (i * 3 + 2) (by omega)]; exact (flat_get It.cells 3 It.cells_length xs i 2 x (by omega) hx).trans rfl

/-- An element stored whole. -/
theorem row_store {w : World} {base g cap : Nat} {xs : List It} (h : HRow w base (.slice (some ⟨g, 0, none⟩) xs.length cap) xs) (i : Nat) (x : It) :
    HRow (((w.setCell ⟨g, i * 3, none⟩ (.int .i64 x.k)).setCell ⟨g, i * 3 + 1, none⟩ (.int .i64 x.n)).setCell ⟨g, i * 3 + 2, none⟩ (.int .i64 x.s)) base (.slice (some ⟨g, 0, none⟩) xs.length cap) (xs.set i x) := by
  have h1 := (((h.stored (i * 3) (.int .i64 x.k)).1.stored (i * 3 + 1) (.int .i64 x.n)).1.stored (i * 3 + 2) (.int .i64 x.s)).1
  rw [fl_set] at h1
  simpa [HRow] using h1

set_option maxHeartbeats 4000000 in
theorem swap_any (hb base g cap : Nat) (next : Int) (lv : Value) (xs : List It) (i j : Nat) (x y : It) (w : World) (hO : HObj w hb lv (.slice (some ⟨g, 0, none⟩) xs.length cap) next)
    (hR : HRow w base (.slice (some ⟨g, 0, none⟩) xs.length cap) xs) (hi : xs[i]? = some x) (hj : xs[j]? = some y) (hij : i ≠ j) :
    Calls Try.prog 41 #[.pointer (some ⟨hb, 0, none⟩), .int .i64 i, .int .i64 j] w fun e w' => e = .returned (.tuple #[]) ∧ HRow w' base (.slice (some ⟨g, 0, none⟩) xs.length cap) ((xs.set i y).set j x) ∧ Fr (fun k => k = g) w w' := by
  have h1 : w.cell? ⟨hb, 1, none⟩ = some (.slice (some ⟨g, 0, none⟩) xs.length cap) := (cell_of_blk hO 1).trans rfl
  have hne : hb ≠ g := fun e => owns_ne hR hO (by decide) (by rw [e]; rfl)
  obtain ⟨c0, c1, c2⟩ := row_cells hR hi
  obtain ⟨d0, d1, d2⟩ := row_cells hR hj
  have hil : (i : Int) < xs.length := by have := (List.getElem?_eq_some_iff.1 hi).1; omega
  have hjl : (j : Int) < xs.length := by have := (List.getElem?_eq_some_iff.1 hj).1; omega
  have hf : ∀ o, w.frozen? ⟨g, o, none⟩ = false := fun o => hR.frozenAt o
  have ij : ¬ i = j := hij
  have ij1 : ¬ i * 3 = j * 3 + 1 := by omega
  have ij2 : ¬ i * 3 = j * 3 + 2 := by omega
  have ij3 : ¬ i * 3 + 1 = j * 3 := by omega
  have ij4 : ¬ i * 3 + 1 = j * 3 + 2 := by omega
  have ij5 : ¬ i * 3 + 2 = j * 3 := by omega
  have ij6 : ¬ i * 3 + 2 = j * 3 + 1 := by omega
  have p0 : (0 : Int) ≤ i := by omega
  have p1 : (0 : Int) ≤ j := by omega
  have HO := Lib.hid hO
  have HR := Lib.hid hR
  have HI := Lib.hid hi
  have HJ := Lib.hid hj
  clear hO hR hi hj hij
  obtain ⟨n, hn⟩ : ∃ n, n = xs.length := ⟨_, rfl⟩
  rw [← hn] at h1 hil hjl HR ⊢
  have HN := Lib.hid hn
  clear hn
  go_enter Try.func41, Try.ntmps41
  go_wp2
  go_region
  go_end0
  refine ⟨rfl, ?_, ?_⟩
  · have hR' := HR.out
    rw [HN.out] at hR' ⊢
    have r1 := row_store hR' i y
    have e1 : (xs.set i y).length = xs.length := List.length_set
    rw [← e1] at r1 ⊢
    have r2 := row_store r1 j x
    refine World.ownsRow.drew ?_
    simpa [HRow] using r2
  · refine Fr.drew ?_
    iterate 6 refine Fr.set1 ?_ _ _ (by rfl) _
    exact Fr.refl _ w

end Go.Proofs.Ytlhgoklojhgfeaa
