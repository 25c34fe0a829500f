/- The contracts of New, Len, Peek: at nil, at an empty heap, at one that holds something.
   Conditions: none but that the heap's cells are known. -/
import Derived.Test.YtlhgoklojhgfeaaF
namespace Go.Proofs.Ytlhgoklojhgfeaa
open Go.RowKit Go.HeapW Go.HeapP
set_option linter.unusedSimpArgs false
set_option linter.unusedVariables false

theorem eql_func (f : Nat) (w : World) : Sem.run Try.prog (binOp .eql 32 (.func (.func f) #[] #[]) .nilFunc) w = .ok (.bool false) w := by kernel_rfl
theorem eql_nilFunc (w : World) : Sem.run Try.prog (binOp .eql 32 .nilFunc .nilFunc) w = .ok (.bool true) w := by kernel_rfl

theorem new_any (f : Nat) (w : World) : Calls Try.prog 14 #[fv f] w fun e w' => e = .returned (.pointer (some ⟨w.heap.size, 0, none⟩)) ∧ HObj w' w.heap.size (fv f) (.slice none 0 0) 0 ∧ Below w.heap.size w w' := by
  have he := eql_func f
  go_enter Try.func14, Try.ntmps14
  go_wp2
  go_ret
  exact ⟨rfl, alloc_new w _, (Below.refl _ _).alloc (Nat.le_refl _) _⟩
theorem new_nil (w : World) : Calls Try.prog 14 #[.nilFunc] w fun e w' => e = .returned (.pointer none) ∧ w = w' := by
  have he := eql_nilFunc
  go_enter Try.func14, Try.ntmps14
  go_wp2
  go_ret
  exact ⟨rfl, rfl⟩
theorem len_nil (w : World) : Calls Try.prog 30 #[.pointer none] w fun e w' => e = .returned (.int .i64 0) ∧ w = w' := by
  go_enter Try.func30, Try.ntmps30
  go_wp2
  go_ret
  exact ⟨rfl, rfl⟩
theorem len_any (hb base : Nat) (lv v : Value) (next : Int) (xs : List It) (w : World) (hO : HObj w hb lv v next) (hR : HRow w base v xs) :
    Calls Try.prog 30 #[.pointer (some ⟨hb, 0, none⟩)] w fun e w' => e = .returned (.int .i64 xs.length) ∧ w = w' := by
  obtain ⟨a, cap, rfl⟩ := row_shape hR
  have h1 : w.cell? ⟨hb, 1, none⟩ = some (.slice a xs.length cap) := (cell_of_blk hO 1).trans rfl
  clear hO hR
  go_enter Try.func30, Try.ntmps30
  go_wp2
  go_ret
  exact ⟨rfl, rfl⟩
theorem peek_nil (w : World) : Calls Try.prog 25 #[.pointer none] w fun e w' => e = .returned (.tuple #[.agg #[.int .i64 0, .int .i64 0], .bool false]) ∧ Below w.heap.size w w' := by
  go_enter Try.func25, Try.ntmps25
  go_wp2
  exact bodyPost_ret (v := .tuple #[.agg #[.int .i64 0, .int .i64 0], .bool false]) (by simp [results, Try.results25, go_sem]) rfl ⟨rfl, (((Below.refl _ _).alloc (Nat.le_refl _) _).alloc (by simp) _)⟩
theorem peek_empty (hb base : Nat) (lv v : Value) (next : Int) (w : World) (hO : HObj w hb lv v next) (hR : HRow w base v []) :
    Calls Try.prog 25 #[.pointer (some ⟨hb, 0, none⟩)] w fun e w' => e = .returned (.tuple #[.agg #[.int .i64 0, .int .i64 0], .bool false]) ∧ Below w.heap.size w w' := by
  obtain ⟨a, cap, rfl⟩ := row_shape hR
  have h1 : w.cell? ⟨hb, 1, none⟩ = some (.slice a 0 cap) := (cell_of_blk hO 1).trans rfl
  have l0 := lt_of_block hO
  have l1 : hb < w.heap.size + 1 := by omega
  have l2 : hb < w.heap.size + 1 + 1 := by omega
  clear hO hR
  go_enter Try.func25, Try.ntmps25
  go_wp2
  exact bodyPost_ret (v := .tuple #[.agg #[.int .i64 0, .int .i64 0], .bool false]) (by simp [results, Try.results25, go_sem]) rfl ⟨rfl, (((Below.refl _ _).alloc (Nat.le_refl _) _).alloc (by simp) _)⟩
theorem peek_some (hb base : Nat) (lv v : Value) (next : Int) (xs : List It) (x : It) (w : World) (hO : HObj w hb lv v next) (hR : HRow w base v xs) (hx : xs[0]? = some x) :
    Calls Try.prog 25 #[.pointer (some ⟨hb, 0, none⟩)] w fun e w' => e = .returned (.tuple #[.agg #[.int .i64 x.k, .int .i64 x.n], .bool true]) ∧ Below w.heap.size w w' := by
  obtain ⟨g, cap, rfl, hcap, hgl, _⟩ := row_at hR (lt_of_get hx)
  have h1 : w.cell? ⟨hb, 1, none⟩ = some (.slice (some ⟨g, 0, none⟩) xs.length cap) := (cell_of_blk hO 1).trans rfl
  have hl : 0 < xs.length := lt_of_get hx
  obtain ⟨c0, c1, c2⟩ := row_cells hR hx
  have l0 := lt_of_block hO
  have l1 : hb < w.heap.size + 1 := by omega
  have l2 : hb < w.heap.size + 1 + 1 := by omega
  have g1 : g < w.heap.size + 1 := by omega
  have g2 : g < w.heap.size + 1 + 1 := by omega
  have hli : (0 : Int) < xs.length := by omega
  rw [Nat.zero_mul] at c0 c1 c2
  rw [Nat.zero_add] at c1 c2
  have hz : ((xs.length : Int) == 0) = false := beq_eq_false_iff_ne.2 (by omega)
  clear hO hR hx
  go_enter Try.func25, Try.ntmps25
  go_wp2
  exact bodyPost_ret (v := .tuple #[.agg #[.int .i64 x.k, .int .i64 x.n], .bool true]) (by simp [results, Try.results25, go_sem]) rfl ⟨rfl, (((Below.refl _ _).alloc (Nat.le_refl _) _).alloc (by simp) _)⟩
end Go.Proofs.Ytlhgoklojhgfeaa
