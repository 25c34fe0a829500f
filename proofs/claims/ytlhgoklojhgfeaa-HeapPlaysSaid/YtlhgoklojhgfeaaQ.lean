/- The contract of Sorted: the items in the heap's order, in a slice of their own; the heap is as it was.
   Conditions: at most 1,000 items. -/
import Derived.Test.YtlhgoklojhgfeaaNA
namespace Go.Proofs.Ytlhgoklojhgfeaa
open Go.RowKit Go.HeapW Go.HeapP
set_option linter.unusedSimpArgs false
set_option linter.unusedVariables false

/-- A heap whose pushes are not numbered on: a copy. -/
def HeapN (w : World) (hb base f : Nat) (σ : Int → Int) (v : Value) (l : List It) (next nb : Int) : Prop :=
  HObj w hb (fv f) v next ∧ Num l nb ∧ ∃ xs, HRow w base v xs ∧ From (bef σ) xs 0 ∧ xs.Perm l

theorem HeapN.keep {S : Nat → Prop} {w w' : World} {hb base f : Nat} {σ : Int → Int} {v : Value} {l : List It} {next nb : Int} (h : HeapN w hb base f σ v l next nb) (hf : Fr S w w') (h1 : ¬ S hb) (h2 : ∀ g, v.ownBlock = some g → ¬ S g) : HeapN w' hb base f σ v l next nb := by
  obtain ⟨hO, hN, xs, hR, hF, hP⟩ := h
  exact ⟨hf.keep hO h1, hN, xs, hf.owns hR h2, hF, hP⟩
theorem HeapN.apart {w : World} {hb base base' f : Nat} {σ : Int → Int} {v s : Value} {l : List It} {next nb : Int} {m : List Im} (h : HeapN w hb base f σ v l next nb) (hr : IRow w base' s m) : ∀ g, s.ownBlock = some g → ¬ foot hb v g := by
  obtain ⟨hO, hN, xs, hR, hF, hP⟩ := h
  intro g hg hf
  rcases hf with rfl | hf
  · exact owns_ne hr hO (by decide) hg
  · exact owns_apart hr hR (by decide) g hg hf
theorem pop_N {w : World} {hb base f : Nat} {σ : Int → Int} (hc : Cmp f σ) {v : Value} {l : List It} {next nb : Int} (h : HeapN w hb base f σ v l next nb) (hl : l.length ≤ 100000) (h0 : 0 < l.length) :
    ∃ x, IsMin σ l x ∧ Calls Try.prog 24 #[.pointer (some ⟨hb, 0, none⟩)] w fun e w' => e = .returned (.tuple #[.agg #[.int .i64 x.k, .int .i64 x.n], .bool true]) ∧ ∃ v', HeapN w' hb base f σ v' (l.erase x) next nb ∧ Own w v v' ∧ Fr (foot hb v) w w' := by
  obtain ⟨hO, hN, xs, hR, hF, hP⟩ := h
  have hxl : 0 < xs.length := by rw [hP.length_eq]; exact h0
  have hx : xs[0]? = some xs[0] := List.getElem?_eq_getElem hxl
  have hm := head_min hF hP hx
  refine ⟨xs[0], hm, (pop_some hb base f σ hc v next xs xs[0] w hO hR hx (by rw [hP.length_eq]; exact hl) hF).mono ?_⟩
  rintro e w' ⟨he, v', ys, hO', hR', hP', hF', hown, hfr⟩
  refine ⟨he, v', ⟨hO', hN.sub List.erase_sublist, ys, hR', hF', ?_⟩, fun g hg => Or.inl (hown g hg), hfr⟩
  have h2 : (xs[0] :: l.erase xs[0]).Perm l := (List.perm_cons_erase hm.1).symm
  exact (List.perm_cons xs[0]).1 ((hP'.trans hP).trans h2.symm)

/-- append of a row to an empty slice: a copy. -/
theorem run_append_copy {w W : World} {base : Nat} {v : Value} {xs : List It} (hR : HRow w base v xs) (hb : Below w.heap.size w W) (B : Nat) (hB : W.heap[B]? = some (.cells #[] 67 (0, 0))) (hBw : w.heap.size ≤ B) (hl : xs.length ≤ 100000) :
    ∃ v' w', (Builtin.append_ #[63, 63] 63 #[.slice (some ⟨B, 0, none⟩) 0 0, v]).run Try.prog W = .ok v' w' ∧ HRow w' w.heap.size v' xs ∧ W.grownBy w' (some B) := by
  obtain ⟨i0, hi0, hz0, hz1, hz2⟩ := info_parts info67
  have hown : W.ownsRow w.heap.size 67 3 (.slice (some ⟨B, 0, none⟩) 0 0) 0 [] := ⟨rfl, .inr ⟨B, 0, #[], rfl, hBw, hB, Nat.le_refl _, by unfold maxLen; omega, rfl, rfl⟩⟩
  have hRW : HRow W base v xs := (Fr.of_below (S := fun _ => False) hb).owns hR (fun _ _ x => x)
  rcases hRW.2 with ⟨rfl, h0⟩ | ⟨g, cap, cur, rfl, _, hg, _⟩
  · have hx : xs = [] := List.length_eq_zero_iff.1 h0
    subst hx
    exact ⟨_, W, run_append_owned_none W w.heap.size 63 63 67 i0 3 Try.underlying63 hi0 _ 0 [] hown, hown, World.grownBy.refl _ _⟩
  · obtain ⟨v', w', hr, ho, hgr, _⟩ := run_append_own W w.heap.size 63 63 67 i0 _ 3 24 Try.underlying63 hi0 hz0 hz1 hz2 rfl (by omega) _ 0 [] hown ⟨g, 0, none⟩ xs.length cap (fl xs) (fl_length xs)
      (fun j u hu => hRW.cells (g := g) rfl j u hu) (fun u hu => by
        simp only [fl, flat, List.mem_flatMap] at hu
        obtain ⟨x, _, hx⟩ := hu
        simp only [It.cells, List.mem_cons, List.not_mem_nil, or_false] at hx
        rcases hx with rfl | rfl | rfl <;> rfl) (by unfold maxLen; omega) (by omega) (by have := hb.size; omega)
    refine ⟨v', w', hr, ?_, hgr⟩
    simpa [HRow] using ho

theorem step_append_copy {ops : Array Oper} {o : Oper} {a : Act} {W : World} {K : Act → World → Prop} {Q : Exit → Act → World → Prop} {E : Prop} (hgd : o.guard = none) (s x : Operand)
    (ho : o.op = .call { callee := .builtin .append, args := #[s, x], argTypes := #[63, 63] }) (hty : o.type = 63) {w : World} {base : Nat} {v : Value} {xs : List It} (hR : HRow w base v xs) (hb : Below w.heap.size w W) (B : Nat)
    (hs : a.eval s = .slice (some ⟨B, 0, none⟩) 0 0) (hB : W.heap[B]? = some (.cells #[] 67 (0, 0))) (hBw : w.heap.size ≤ B) (hx : a.eval x = v) (hl : xs.length ≤ 100000)
    (h : ∀ v' w', HRow w' w.heap.size v' xs → W.grownBy w' (some B) → K (a.put o.dst v') w') :
    if Region.wanted o (yielded ops a.tmps) = true then Oper.wp Try.prog o a W K Q else E := by
  have hw : Region.wanted o (yielded ops a.tmps) = true := by simp [Region.wanted, hgd]
  rw [if_pos hw]
  obtain ⟨v', w', hr, h1, h2⟩ := run_append_copy hR hb B hB hBw hl
  unfold Oper.wp execOp
  simp only [ho, hty, resolve, invoke, builtin, Sem.run_bind, Sem.run_pure, Result.andThen_ok, List.map_toArray, List.map_cons, List.map_nil, hs, hx, hr]
  exact h v' w' h1 h2

/-- What the making of the copy leaves. -/
def CopyMid (w wx : World) (f : Nat) (xs : List It) (s3 : Value) : Prop :=
  ∃ cb v, s3 = .pointer (some ⟨cb, 0, none⟩) ∧ w.heap.size ≤ cb ∧ HObj wx cb (fv f) v 0 ∧ HRow wx w.heap.size v xs ∧ Below w.heap.size w wx

theorem copymid_of {w w0 w' : World} {f B cb : Nat} {xs : List It} {v' : Value} (hb : Below w.heap.size w w0) (hr : HRow w' w.heap.size v' xs) (hg : w0.grownBy w' (some B)) (hB : w.heap.size ≤ B) (hcb : w.heap.size ≤ cb) (hC : HObj w' cb (fv f) v' 0) :
    CopyMid w w' f xs (.pointer (some ⟨cb, 0, none⟩)) :=
  ⟨cb, v', rfl, hcb, hC, hr, hb.grown hg hb.size (fun k hk => by cases hk; exact hB)⟩

def SortRel (w : World) (cb f : Nat) (σ : Int → Int) (l : List It) (nb : Int) (gk : Nat) (s : Value) (wr : World) : Prop :=
  ∃ (o r : List It) (v' : Value), r.length ≤ gk ∧ Popd σ l o r ∧ HeapN wr cb w.heap.size f σ v' r 0 nb ∧ Below w.heap.size w wr ∧ IRow wr w.heap.size s (o.map It.im)

theorem sorted_nil (w : World) : Calls Try.prog 32 #[.pointer none] w fun e w' => e = .returned (.slice none 0 0) ∧ w = w' := by
  go_enter Try.func32, Try.ntmps32
  go_wp2
  go_ret
  exact ⟨rfl, rfl⟩

set_option maxHeartbeats 4000000 in
theorem sorted_l {w : World} {hb base f : Nat} {σ : Int → Int} (hc : Cmp f σ) {v : Value} {l : List It} {next : Int} (h : Heap w hb base f σ v l next) (hl' : l.length ≤ 1000) :
    Calls Try.prog 32 #[.pointer (some ⟨hb, 0, none⟩)] w fun e w' => ∃ s o, e = .returned s ∧ Srt σ o ∧ o.Perm l ∧ IRow w' w.heap.size s (o.map It.im) ∧ Below w.heap.size w w' := by
  obtain ⟨hO, hN, xs, hR, hF, hP⟩ := h
  have hl : xs.length ≤ 100000 := by rw [hP.length_eq]; omega
  have HC := Lib.hid hc
  have HN := Lib.hid hN
  have HF := Lib.hid hF
  have HP := Lib.hid hP
  have HLL := Lib.hid hl'
  clear hc hN hF hP hl'
  have h0 : w.cell? ⟨hb, 0, none⟩ = some (fv f) := (cell_of_blk hO 0).trans rfl
  have h1 : w.cell? ⟨hb, 1, none⟩ = some v := (cell_of_blk hO 1).trans rfl
  have e0 := World.new_ne w _ h0
  have l0 := lt_of_block hO
  have HO := Lib.hid hO
  have HR := Lib.hid hR
  have HL := Lib.hid hl
  clear hO hR hl
  go_enter Try.func32, Try.ntmps32
  go_upto_region 3 with fail
  go_cut [3] (fun s3 wx => CopyMid w wx f xs s3)
  case first =>
    refine wp_region_held_drew (S := fun w' => w'.cell? ⟨hb, 0, none⟩ = some (fv f) ∧ w'.cell? ⟨hb, 1, none⟩ = some v) (by kernel_rfl) (by go_keep) (fun hHeld => ?_)
    refine wpAnyH_take (i := 0) (oi := ⟨some 9, _, _, _, _, _⟩) (v := ?_) rfl (by kernel_rfl) (by kernel_rfl) (by kernel_rfl) (fun _ _ _ h => h) (Or.inl ⟨by rfl, ?_⟩) (by assumption) ?_
    rotate_left
    · intro w hSw; (try dsimp only at hSw); go_simp; try (with_reducible rfl)
    try simp only [Act.put, List.setIfInBounds_toArray, List.set_cons_zero, List.set_cons_succ]
    refine wpAnyH_take (i := 1) (oi := ⟨some 10, _, _, _, _, _⟩) (v := ?_) rfl (by kernel_rfl) (by kernel_rfl) (by kernel_rfl) (fun _ _ _ h => h) (Or.inl ⟨by rfl, ?_⟩) (by assumption) ?_
    rotate_left
    · intro w hSw; (try dsimp only at hSw); go_simp; try (with_reducible rfl)
    try simp only [Act.put, List.setIfInBounds_toArray, List.set_cons_zero, List.set_cons_succ]
    refine wpAnyH_take (i := 2) (oi := ⟨some 11, _, _, _, _, _⟩) (v := ?_) rfl (by kernel_rfl) (by kernel_rfl) (by kernel_rfl) (fun _ _ _ h => h) (Or.inl ⟨by rfl, ?_⟩) (by assumption) ?_
    rotate_left
    · intro w hSw; (try dsimp only at hSw); go_simp; try (with_reducible rfl)
    try simp only [Act.put, List.setIfInBounds_toArray, List.set_cons_zero, List.set_cons_succ]
    refine wpAnyH_take (i := 3) (oi := ⟨some 12, _, _, _, _, _⟩) (v := ?_) rfl (by kernel_rfl) (by kernel_rfl) (by kernel_rfl) (fun _ _ _ h => h) (Or.inl ⟨by rfl, ?_⟩) (by assumption) ?_
    rotate_left
    · intro w hSw; (try dsimp only at hSw); go_simp; try (with_reducible rfl)
    try simp only [Act.put, List.setIfInBounds_toArray, List.set_cons_zero, List.set_cons_succ]
    refine wpAnyH_take (i := 5) (oi := ⟨some 14, _, _, _, _, _⟩) (v := ?_) rfl (by kernel_rfl) (by kernel_rfl) (by kernel_rfl) (fun _ _ _ h => h) (Or.inl ⟨by rfl, ?_⟩) (by assumption) ?_
    rotate_left
    · intro w hSw; (try dsimp only at hSw); go_simp; try (with_reducible rfl)
    try simp only [Act.put, List.setIfInBounds_toArray, List.set_cons_zero, List.set_cons_succ]
    refine wpAnyH_take (i := 6) (oi := ⟨some 15, _, _, _, _, _⟩) (v := ?_) rfl (by kernel_rfl) (by kernel_rfl) (by kernel_rfl) (fun _ _ _ h => h) (Or.inl ⟨by rfl, ?_⟩) (by assumption) ?_
    rotate_left
    · intro w hSw; (try dsimp only at hSw); go_simp; try (with_reducible rfl)
    try simp only [Act.put, List.setIfInBounds_toArray, List.set_cons_zero, List.set_cons_succ]
    refine wpAnyH_take (i := 7) (oi := ⟨some 16, _, _, _, _, _⟩) (v := ?_) rfl (by kernel_rfl) (by kernel_rfl) (by kernel_rfl) (fun _ _ _ h => h) (Or.inl ⟨by rfl, ?_⟩) (by assumption) ?_
    rotate_left
    · intro w hSw; (try dsimp only at hSw); go_simp; try (with_reducible rfl)
    try simp only [Act.put, List.setIfInBounds_toArray, List.set_cons_zero, List.set_cons_succ]
    refine wpAnyH_take (i := 8) (oi := ⟨some 17, _, _, _, _, _⟩) (v := ?_) rfl (by kernel_rfl) (by kernel_rfl) (by kernel_rfl) (fun _ _ _ h => h) (Or.inl ⟨by rfl, ?_⟩) (by assumption) ?_
    rotate_left
    · intro w hSw; (try dsimp only at hSw); go_simp; try (with_reducible rfl)
    try simp only [Act.put, List.setIfInBounds_toArray, List.set_cons_zero, List.set_cons_succ]
    refine wpAnyH_ready (rs := [4, 11]) (by kernel_rfl) (by simp) ?_
    refine AllReadyH.cons (o := ⟨some 13, _, _, _, _, _⟩) rfl (fun K hK => ?_) (AllReadyH.cons (o := ⟨some 3, _, _, _, _, _⟩) rfl (fun K hK => ?_) AllReadyH.nil)
    · go_simp
      refine hK.out _ _ ?_ (fun hHeld => ?_)
      · (try dsimp only); go_keep
      clear hK K
      try simp only [Act.put, List.setIfInBounds_toArray, List.set_cons_zero, List.set_cons_succ]
      refine wpAnyH_ready (rs := [9, 11]) (by kernel_rfl) (by simp) ?_
      refine AllReadyH.cons (o := ⟨some 18, _, _, _, _, _⟩) rfl (fun K hK => ?_) (AllReadyH.cons (o := ⟨some 3, _, _, _, _, _⟩) rfl (fun K hK => ?_) AllReadyH.nil)
      · have HW := Lib.hid (((Below.refl w.heap.size w).alloc (Nat.le_refl _) (.cells #[] 67)).drew)
        refine step_append_copy (by rfl) (.tmp 13) (.tmp 17) (by rfl) (by rfl) HR.out HW.out w.heap.size (by rfl) (alloc_new w _) (by omega) (by rfl) HL.out ?_
        intro v' w1 hr1 hg1
        obtain ⟨a', c', rfl⟩ := row_shape hr1
        have HR1 := Lib.hid hr1
        have HG1 := Lib.hid hg1
        clear hr1 hg1
        have HQ := Lib.hid (HW.out.grown HG1.out HW.out.size (fun k hk => by cases hk; omega))
        refine hK.out _ _ ?_ (fun hHeld => ?_)
        · (try dsimp only); exact ⟨(HQ.out.cell (p := ⟨hb, 0, none⟩) l0).trans h0, (HQ.out.cell (p := ⟨hb, 1, none⟩) l0).trans h1⟩
        clear hK K
        try simp only [Act.put, List.setIfInBounds_toArray, List.set_cons_zero, List.set_cons_succ]
        refine wpAnyH_take (i := 10) (oi := ⟨some 19, _, _, _, _, _⟩) (v := ?_) rfl (by kernel_rfl) (by kernel_rfl) (by kernel_rfl) (fun _ _ _ h => h) (Or.inl ⟨by rfl, ?_⟩) (by assumption) ?_
        rotate_left
        · intro w hSw; (try dsimp only at hSw); go_simp; try (with_reducible rfl)
        try simp only [Act.put, List.setIfInBounds_toArray, List.set_cons_zero, List.set_cons_succ]
        refine wpAnyH_ready (rs := [11]) (by kernel_rfl) (by simp) ?_
        refine AllReadyH.cons (o := ⟨some 3, _, _, _, _, _⟩) rfl (fun K hK => ?_) AllReadyH.nil
        go_simp
        have HQ2 := Lib.hid (HQ.out.alloc HQ.out.size (.cells #[.nilFunc, .slice none 0 0, .int .i64 0] 65))
        refine hK.out _ _ ?_ (fun hHeld => ?_)
        · (try dsimp only); exact ⟨(HQ2.out.cell (p := ⟨hb, 0, none⟩) l0).trans h0, (HQ2.out.cell (p := ⟨hb, 1, none⟩) l0).trans h1⟩
        clear hK K
        try simp only [Act.put, List.setIfInBounds_toArray, List.set_cons_zero, List.set_cons_succ]
        refine wpAnyH_ready (rs := [12]) (by kernel_rfl) (by simp) ?_
        refine AllReadyH.cons (o := ⟨none, _, _, _, _, _⟩) rfl (fun K hK => ?_) AllReadyH.nil
        go_simp
        have HQ3 := Lib.hid (HQ.out.alloc HQ.out.size (.cells #[fv f, .slice a' xs.length c', .int .i64 0] 65))
        refine hK.out _ _ ?_ (fun hHeld => ?_)
        · (try dsimp only); exact ⟨(HQ3.out.cell (p := ⟨hb, 0, none⟩) l0).trans h0, (HQ3.out.cell (p := ⟨hb, 1, none⟩) l0).trans h1⟩
        clear hK K
        try simp only [Act.put, List.setIfInBounds_toArray, List.set_cons_zero, List.set_cons_succ]
        refine wpAnyH_done (by kernel_rfl) ?_ _
        go_wp2_with fail
        go_meet
        exact ⟨w1.heap.size, .slice a' xs.length c', rfl, HQ.out.size, alloc_new w1 _, HR1.out.alloc _, HQ3.out⟩
      · go_simp
        refine hK.out _ _ ?_ (fun hHeld => ?_)
        · (try dsimp only); go_keep
        clear hK K
        try simp only [Act.put, List.setIfInBounds_toArray, List.set_cons_zero, List.set_cons_succ]
        refine wpAnyH_ready (rs := [9]) (by kernel_rfl) (by simp) ?_
        refine AllReadyH.cons (o := ⟨some 18, _, _, _, _, _⟩) rfl (fun K hK => ?_) AllReadyH.nil
        have HW := Lib.hid ((((Below.refl w.heap.size w).alloc (Nat.le_refl _) (.cells #[] 67)).alloc (by simp) (.cells #[.nilFunc, .slice none 0 0, .int .i64 0] 65)).drew)
        refine step_append_copy (by rfl) (.tmp 13) (.tmp 17) (by rfl) (by rfl) HR.out HW.out w.heap.size (by rfl) (alloc_keep (alloc_new w _) _) (by omega) (by rfl) HL.out ?_
        intro v' w1 hr1 hg1
        obtain ⟨a', c', rfl⟩ := row_shape hr1
        have HR1 := Lib.hid hr1
        have HG1 := Lib.hid hg1
        clear hr1 hg1
        have HQ := Lib.hid (HW.out.grown HG1.out HW.out.size (fun k hk => by cases hk; omega))
        refine hK.out _ _ ?_ (fun hHeld => ?_)
        · (try dsimp only); exact ⟨(HQ.out.cell (p := ⟨hb, 0, none⟩) l0).trans h0, (HQ.out.cell (p := ⟨hb, 1, none⟩) l0).trans h1⟩
        clear hK K
        try simp only [Act.put, List.setIfInBounds_toArray, List.set_cons_zero, List.set_cons_succ]
        have HCB := Lib.hid (grown_keep HG1.out (blk2 w (.cells #[] 67) (.cells #[.nilFunc, .slice none 0 0, .int .i64 0] 65)) (fun h => by simp at h))
        refine wpAnyH_take (i := 10) (oi := ⟨some 19, _, _, _, _, _⟩) (v := ?_) rfl (by kernel_rfl) (by kernel_rfl) (by kernel_rfl) (fun _ _ _ h => h) (Or.inl ⟨by rfl, ?_⟩) (by assumption) ?_
        rotate_left
        · intro w hSw; (try dsimp only at hSw); go_simp; try (with_reducible rfl)
        try simp only [Act.put, List.setIfInBounds_toArray, List.set_cons_zero, List.set_cons_succ]
        refine wpAnyH_ready (rs := [12]) (by kernel_rfl) (by simp) ?_
        refine AllReadyH.cons (o := ⟨none, _, _, _, _, _⟩) rfl (fun K hK => ?_) AllReadyH.nil
        have m0 : w1.cell? ⟨w.heap.size + 1, 0, none⟩ = some .nilFunc := (cell_of_blk HCB.out 0).trans rfl
        have m1 : w1.cell? ⟨w.heap.size + 1, 1, none⟩ = some (.slice none 0 0) := (cell_of_blk HCB.out 1).trans rfl
        have m2 : w1.cell? ⟨w.heap.size + 1, 2, none⟩ = some (.int .i64 0) := (cell_of_blk HCB.out 2).trans rfl
        have n0 : w1.frozen? ⟨w.heap.size + 1, 0, none⟩ = false := free_of_blk HCB.out 0
        have n1 : w1.frozen? ⟨w.heap.size + 1, 1, none⟩ = false := free_of_blk HCB.out 1
        have n2 : w1.frozen? ⟨w.heap.size + 1, 2, none⟩ = false := free_of_blk HCB.out 2
        go_simp
        clear m0 m1 m2 n0 n1 n2
        have HQ3 := Lib.hid (((HQ.out.setCell (p := ⟨w.heap.size + 1, 0, none⟩) (show w.heap.size ≤ w.heap.size + 1 from by omega) (fv f)).setCell (p := ⟨w.heap.size + 1, 1, none⟩) (show w.heap.size ≤ w.heap.size + 1 from by omega) (.slice a' xs.length c')).setCell (p := ⟨w.heap.size + 1, 2, none⟩) (show w.heap.size ≤ w.heap.size + 1 from by omega) (.int .i64 0))
        refine hK.out _ _ ?_ (fun hHeld => ?_)
        · (try dsimp only); exact ⟨(HQ3.out.cell (p := ⟨hb, 0, none⟩) l0).trans h0, (HQ3.out.cell (p := ⟨hb, 1, none⟩) l0).trans h1⟩
        clear hK K
        try simp only [Act.put, List.setIfInBounds_toArray, List.set_cons_zero, List.set_cons_succ]
        refine wpAnyH_done (by kernel_rfl) ?_ _
        go_wp2_with fail
        go_meet
        have hne : (Value.slice a' xs.length c').ownBlock ≠ some (w.heap.size + 1) := owns_ne HR1.out HCB.out (by decide)
        exact ⟨w.heap.size + 1, .slice a' xs.length c', rfl, by omega, (setCell_blk (setCell_blk (setCell_blk HCB.out 0 _) 1 _) 2 _).trans rfl, ownsRow_setCell_other (ownsRow_setCell_other (ownsRow_setCell_other HR1.out (a := ⟨w.heap.size + 1, 0, none⟩) hne _) (a := ⟨w.heap.size + 1, 1, none⟩) hne _) (a := ⟨w.heap.size + 1, 2, none⟩) hne _, HQ3.out⟩
    · go_simp
      refine hK.out _ _ ?_ (fun hHeld => ?_)
      · (try dsimp only); go_keep
      clear hK K
      try simp only [Act.put, List.setIfInBounds_toArray, List.set_cons_zero, List.set_cons_succ]
      refine wpAnyH_ready (rs := [4]) (by kernel_rfl) (by simp) ?_
      refine AllReadyH.cons (o := ⟨some 13, _, _, _, _, _⟩) rfl (fun K hK => ?_) AllReadyH.nil
      go_simp
      refine hK.out _ _ ?_ (fun hHeld => ?_)
      · (try dsimp only); go_keep
      clear hK K
      try simp only [Act.put, List.setIfInBounds_toArray, List.set_cons_zero, List.set_cons_succ]
      refine wpAnyH_ready (rs := [9]) (by kernel_rfl) (by simp) ?_
      refine AllReadyH.cons (o := ⟨some 18, _, _, _, _, _⟩) rfl (fun K hK => ?_) AllReadyH.nil
      have HW := Lib.hid ((((Below.refl w.heap.size w).alloc (Nat.le_refl _) (.cells #[.nilFunc, .slice none 0 0, .int .i64 0] 65)).alloc (by simp) (.cells #[] 67)).drew)
      refine step_append_copy (by rfl) (.tmp 13) (.tmp 17) (by rfl) (by rfl) HR.out HW.out (w.heap.size + 1) (by rfl) (blk2 w _ _) (by omega) (by rfl) HL.out ?_
      intro v' w1 hr1 hg1
      obtain ⟨a', c', rfl⟩ := row_shape hr1
      have HR1 := Lib.hid hr1
      have HG1 := Lib.hid hg1
      clear hr1 hg1
      have HQ := Lib.hid (HW.out.grown HG1.out HW.out.size (fun k hk => by cases hk; omega))
      refine hK.out _ _ ?_ (fun hHeld => ?_)
      · (try dsimp only); exact ⟨(HQ.out.cell (p := ⟨hb, 0, none⟩) l0).trans h0, (HQ.out.cell (p := ⟨hb, 1, none⟩) l0).trans h1⟩
      clear hK K
      try simp only [Act.put, List.setIfInBounds_toArray, List.set_cons_zero, List.set_cons_succ]
      have HCB := Lib.hid (grown_keep HG1.out (alloc_keep (alloc_new w (.cells #[.nilFunc, .slice none 0 0, .int .i64 0] 65)) (.cells #[] 67)) (fun h => by simp at h))
      refine wpAnyH_take (i := 10) (oi := ⟨some 19, _, _, _, _, _⟩) (v := ?_) rfl (by kernel_rfl) (by kernel_rfl) (by kernel_rfl) (fun _ _ _ h => h) (Or.inl ⟨by rfl, ?_⟩) (by assumption) ?_
      rotate_left
      · intro w hSw; (try dsimp only at hSw); go_simp; try (with_reducible rfl)
      try simp only [Act.put, List.setIfInBounds_toArray, List.set_cons_zero, List.set_cons_succ]
      refine wpAnyH_ready (rs := [12]) (by kernel_rfl) (by simp) ?_
      refine AllReadyH.cons (o := ⟨none, _, _, _, _, _⟩) rfl (fun K hK => ?_) AllReadyH.nil
      have m0 : w1.cell? ⟨w.heap.size, 0, none⟩ = some .nilFunc := (cell_of_blk HCB.out 0).trans rfl
      have m1 : w1.cell? ⟨w.heap.size, 1, none⟩ = some (.slice none 0 0) := (cell_of_blk HCB.out 1).trans rfl
      have m2 : w1.cell? ⟨w.heap.size, 2, none⟩ = some (.int .i64 0) := (cell_of_blk HCB.out 2).trans rfl
      have n0 : w1.frozen? ⟨w.heap.size, 0, none⟩ = false := free_of_blk HCB.out 0
      have n1 : w1.frozen? ⟨w.heap.size, 1, none⟩ = false := free_of_blk HCB.out 1
      have n2 : w1.frozen? ⟨w.heap.size, 2, none⟩ = false := free_of_blk HCB.out 2
      go_simp
      clear m0 m1 m2 n0 n1 n2
      have HQ3 := Lib.hid (((HQ.out.setCell (p := ⟨w.heap.size, 0, none⟩) (show w.heap.size ≤ w.heap.size from by omega) (fv f)).setCell (p := ⟨w.heap.size, 1, none⟩) (show w.heap.size ≤ w.heap.size from by omega) (.slice a' xs.length c')).setCell (p := ⟨w.heap.size, 2, none⟩) (show w.heap.size ≤ w.heap.size from by omega) (.int .i64 0))
      refine hK.out _ _ ?_ (fun hHeld => ?_)
      · (try dsimp only); exact ⟨(HQ3.out.cell (p := ⟨hb, 0, none⟩) l0).trans h0, (HQ3.out.cell (p := ⟨hb, 1, none⟩) l0).trans h1⟩
      clear hK K
      try simp only [Act.put, List.setIfInBounds_toArray, List.set_cons_zero, List.set_cons_succ]
      refine wpAnyH_done (by kernel_rfl) ?_ _
      go_wp2_with fail
      go_meet
      have hne : (Value.slice a' xs.length c').ownBlock ≠ some (w.heap.size) := owns_ne HR1.out HCB.out (by decide)
      exact ⟨w.heap.size, .slice a' xs.length c', rfl, by omega, (setCell_blk (setCell_blk (setCell_blk HCB.out 0 _) 1 _) 2 _).trans rfl, ownsRow_setCell_other (ownsRow_setCell_other (ownsRow_setCell_other HR1.out (a := ⟨w.heap.size, 0, none⟩) hne _) (a := ⟨w.heap.size, 1, none⟩) hne _) (a := ⟨w.heap.size, 2, none⟩) hne _, HQ3.out⟩
  case rest =>
    obtain ⟨cb, vc, rfl, hcb, hC, hRC, hB⟩ := hcut
    have H0 : SortRel w cb f σ l next l.length (.slice none 0 0) wc := ⟨[], l, vc, Nat.le_refl _, Popd.start, ⟨hC, HN.out, xs, hRC, HF.out, HP.out⟩, hB, irow_nil _ _⟩
    have HCB := Lib.hid hcb
    clear hC hRC hB hcb h0 h1 e0 l0
    obtain ⟨i0, hi0, hz0, hz1, hz2⟩ := info_parts info26
    go_wp2_with fail
    go_loopg [4] l.length (fun gk s wr => SortRel w cb f σ l next gk s wr)
    case atStart => exact H0
    case round =>
      clear H0
      obtain ⟨o, r, v', hg, hp, hh, hbe, hrow⟩ := hrel
      have hlen : o.length + r.length = l.length := by rw [← List.length_append]; exact hp.perm.length_eq
      obtain ⟨hO', _, ys, hR', _, hP'⟩ := id hh
      obtain ⟨a, cap, hv⟩ := row_shape hR'
      rw [hP'.length_eq] at hv
      subst hv
      have c1 : wr.cell? ⟨cb, 1, none⟩ = some (.slice a r.length cap) := (cell_of_blk hO' 1).trans rfl
      have HG := Lib.hid hg
      have HPD := Lib.hid hp
      have HH := Lib.hid hh
      have HBE := Lib.hid hbe
      have HROW := Lib.hid hrow
      have HLEN := Lib.hid hlen
      clear hg hp hh hbe hrow hlen hO' hR' hP'
      by_cases hr : r = []
      · subst hr
        go_wp2_with fail
        go_ret
        have hpp := HPD.out.perm
        rw [List.append_nil] at hpp
        exact ⟨_, o, rfl, HPD.out.srt, hpp, HROW.out, HBE.out⟩
      · have hrl : (0 : Int) < (r.length : Int) := by have := List.length_pos_iff.2 hr; omega
        obtain ⟨x, hx, hpo⟩ := pop_N HC.out HH.out (by have := HLL.out; have := HLEN.out; omega) (List.length_pos_iff.2 hr)
        have HX := Lib.hid hx
        have HPO := Lib.hid hpo
        have HNE := Lib.hid hr
        clear hx hpo hr
        go_wp2_with (first | (go_at_call 24; ((with_reducible refine (HPO.out).mono ?_); rintro e w2 ⟨rfl, hx⟩; obtain ⟨v2, hh2, hown2, hfr2⟩ := hx; have HRW2 := Lib.hid (hfr2.owns HROW.out (HH.out.apart HROW.out)); have HH2 := Lib.hid hh2; have HFR2 := Lib.hid hfr2; clear hh2 hown2 hfr2)) | (at_builtin; go_must (refine wpList_append_lies _ rfl (.tmp 28) (.tmp 30) 24 rfl w.heap.size 26 i0 _ 2 16 Try.underlying24 hi0 hz0 hz1 hz2 rfl (by omega) _ (o.map It.im).length (flat pk (o.map It.im)) rfl ((HRW2.out.alloc _).alloc _) ⟨w2.heap.size + 1, 0, none⟩ 1 1 (pk (x.k, x.n)) rfl rfl ?c1 ?c2 (by omega) ?c3 ?c4 ?c5 (w2.heap.size + 2) ?c6 ?_)))
        case c1 => exact World.news_of_block (cs := #[.int .i64 x.k, .int .i64 x.n]) (t := 26) (fr := (0, 0)) (blk2 _ _ _)
        case c2 => simp [Value.oneCell', pk]
        case c3 => unfold maxLen; have := HLL.out; have := HLEN.out; simp; omega
        case c4 => have := HLL.out; have := HLEN.out; simp; omega
        case c5 => have := HBE.out.size; have := HFR2.out.size; rw [size2]; omega
        case c6 => exact size2 _ _ _
        intro g cap' w3 hro hgr hat hlt
        have HRO := Lib.hid hro
        have HGR := Lib.hid hgr
        clear hro hgr hat hlt
        go_wp2_with fail
        go_roundg (r.length - 1)
        case rel =>
          have hfr3 : Fr (fun j => Value.ownBlock _ = some j) w2 w3 := (((Fr.refl _ w2).alloc _).alloc _).trans (Fr.of_grown HGR.out)
          have hb2 : Below w.heap.size w w2 := HBE.out.trans (HFR2.out.below HBE.out.size (fun k hk hs => by
            rcases hs with rfl | hs
            · have := HCB.out; omega
            · obtain ⟨_, _, ys, hR', _, _⟩ := HH.out
              have := (hR'.lt k hs).1
              omega))
          refine ⟨o ++ [x], r.erase x, v2, by rw [List.length_erase_of_mem HX.out.1]; exact Nat.le_refl _, HPD.out.step HH.out.2.1 HX.out, ?_, ?_, ?_⟩
          · exact HH2.out.keep hfr3 (fun h => HH2.out.apart HRW2.out _ h (Or.inl rfl)) (fun j hj h => HH2.out.apart HRW2.out _ h (Or.inr hj))
          · exact hb2.trans (hfr3.below hb2.size (fun k hk hs => by have := (HRW2.out.lt k hs).1; omega))
          · have e : (o ++ [x]).map It.im = o.map It.im ++ [(x.k, x.n)] := by simp [It.im]
            rw [e]
            have hro := HRO.out
            simp only [IRow, flat_snoc, List.length_append, List.length_singleton, List.length_map]
            exact hro
        case measure => have := HG.out; omega

end Go.Proofs.Ytlhgoklojhgfeaa
