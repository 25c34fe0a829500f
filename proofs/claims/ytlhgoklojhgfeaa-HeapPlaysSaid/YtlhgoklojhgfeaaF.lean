/- The contract of Push: the element joins the others, with the number of its push.
   Conditions: the heap is in order; it holds fewer than 100,000 elements. -/
import Derived.Test.YtlhgoklojhgfeaaE
namespace Go.Proofs.Ytlhgoklojhgfeaa
open Go.RowKit Go.HeapW Go.HeapP
set_option linter.unusedSimpArgs false
set_option linter.unusedVariables false

theorem info67 : (Try.prog.info? 67).map (fun i => (i.zero, i.size, i.bytes)) = some (some (.agg #[.int .i64 0, .int .i64 0, .int .i64 0]), 3, 24) := by kernel_rfl

theorem grown_keep {w w' : World} {row : Option Nat} (h : w.grownBy w' row) {g : Nat} {o : Obj} (ho : w.heap[g]? = some o) (hne : row ≠ some g) : w'.heap[g]? = some o :=
  (h.block g (lt_of_block ho) (fun e => hne e.symm)).trans ho

/-- Behind the append and the store of the slice. -/
def PushMid (w wx : World) (hb base f : Nat) (v : Value) (next : Int) (xs : List It) (x : It) : Prop :=
  ∃ g cap, HObj wx hb (fv f) (.slice (some ⟨g, 0, none⟩) (xs.length + 1) cap) next ∧ wx.ownsRow base 67 3 (.slice (some ⟨g, 0, none⟩) (xs.length + 1) cap) (xs.length + 1) (fl xs ++ x.cells) ∧
    (v.ownBlock = some g ∨ g = w.heap.size + 2) ∧ Fr (fun j => j = hb ∨ v.ownBlock = some j) w wx

theorem mid_fr {w w1 : World} {hb : Nat} {v u : Value} {b1 b2 : Obj} {base n : Nat} {xs : List Value} (hr : ((w.alloc b1).alloc b2).drew.ownsRow base 67 3 v n xs) (hg : ((w.alloc b1).alloc b2).drew.grownBy w1 v.ownBlock) :
    Fr (fun j => j = hb ∨ v.ownBlock = some j) w (w1.setCell ⟨hb, 1, none⟩ u) :=
  Fr.set1 (S := fun j => j = hb ∨ v.ownBlock = some j) ((((Fr.refl _ w).alloc b1).alloc b2).drew.trans ((Fr.of_grown hg).mono fun i _ e => Or.inr e)) hb 1 (Or.inl rfl) u

set_option maxHeartbeats 4000000 in
theorem push_any (hb base : Nat) (f : Nat) (σ : Int → Int) (hc : Cmp f σ) (v : Value) (next : Int) (xs : List It) (k nm : Int) (w : World)
    (hO : HObj w hb (fv f) v next) (hR : HRow w base v xs) (hlen : xs.length ≤ 100000) (hbs : base ≤ w.heap.size) (hF : From (bef σ) xs 0) (hn0 : 0 ≤ next) (hn1 : next ≤ 1000000) :
    Calls Try.prog 16 #[.pointer (some ⟨hb, 0, none⟩), .agg #[.int .i64 k, .int .i64 nm]] w fun e w' => e = .returned (.tuple #[]) ∧
      ∃ v' ys, HObj w' hb (fv f) v' (next + 1) ∧ HRow w' base v' ys ∧ ys.Perm (xs ++ [⟨k, nm, next⟩]) ∧ From (bef σ) ys 0 ∧ (∀ g, v'.ownBlock = some g → v.ownBlock = some g ∨ w.heap.size ≤ g) ∧ Fr (fun j => j = hb ∨ v.ownBlock = some j) w w' := by
  obtain ⟨i0, hi0, hz0, hz1, hz2⟩ := info_parts info67
  have h1 : w.cell? ⟨hb, 1, none⟩ = some v := (cell_of_blk hO 1).trans rfl
  have h2 : w.cell? ⟨hb, 2, none⟩ = some (.int .i64 next) := (cell_of_blk hO 2).trans rfl
  have l0 := lt_of_block hO
  have l1 : hb < w.heap.size + 1 := by omega
  have HNE := Lib.hid (show w.heap.size ≠ hb from by omega)
  have HON := Lib.hid (show ((w.alloc (.cells #[.int .i64 k, .int .i64 nm] 26)).alloc (.cells #[.int .i64 k, .int .i64 nm, .int .i64 next] 67)).drew.heap[hb]? = some (.cells #[fv f, v, .int .i64 next] 65 (0, 0)) from alloc_keep (alloc_keep hO _) _)
  have HBX := Lib.hid (show ((w.alloc (.cells #[.int .i64 k, .int .i64 nm] 26)).alloc (.cells #[.int .i64 k, .int .i64 nm, .int .i64 next] 67)).drew.heap[w.heap.size]? = some (.cells #[.int .i64 k, .int .i64 nm] 26 (0, 0)) from alloc_keep (alloc_new w _) _)
  have HNB : Hid (((w.alloc (.cells #[.int .i64 k, .int .i64 nm] 26)).alloc (.cells #[.int .i64 k, .int .i64 nm, .int .i64 next] 67)).drew.heap[w.heap.size + 1]? = some (.cells #[.int .i64 k, .int .i64 nm, .int .i64 next] 67 (0, 0))) := by
    have h := alloc_new (w.alloc (.cells #[.int .i64 k, .int .i64 nm] 26)) (.cells #[.int .i64 k, .int .i64 nm, .int .i64 next] 67)
    rw [World.size_alloc] at h
    exact h
  have HRN := Lib.hid (show ((w.alloc (.cells #[.int .i64 k, .int .i64 nm] 26)).alloc (.cells #[.int .i64 k, .int .i64 nm, .int .i64 next] 67)).drew.ownsRow base 67 3 v xs.length (fl xs) from ((hR.alloc _).alloc _).drew)
  have HBS : Hid (base ≤ ((w.alloc (.cells #[.int .i64 k, .int .i64 nm] 26)).alloc (.cells #[.int .i64 k, .int .i64 nm, .int .i64 next] 67)).drew.heap.size) := by
    show base ≤ ((w.alloc _).alloc _).heap.size
    simp
    omega
  have HL := Lib.hid hlen
  have HC := Lib.hid hc
  have HF := Lib.hid hF
  clear hO hR hlen hbs hc hF
  go_enter Try.func16, Try.ntmps16
  go_upto_region 2 with fail
  go_cut [3] (fun s3 wx => PushMid w wx hb base f v next xs ⟨k, nm, next⟩)
  case first =>
    refine wp_region_held_drew (S := fun w' => w'.cell? ⟨w.heap.size, 0, none⟩ = some (.int .i64 k) ∧ w'.cell? ⟨w.heap.size, 1, none⟩ = some (.int .i64 nm) ∧ w'.cell? ⟨hb, 2, none⟩ = some (.int .i64 next)) (by kernel_rfl) (by go_keep) (fun hHeld => ?_)
    refine wpAnyH_take (i := 0) (oi := ⟨some 6, _, _, _, _, _⟩) (v := ?_) rfl (by kernel_rfl) (by kernel_rfl) (by kernel_rfl) (fun _ _ _ h => h) (Or.inl ⟨by rfl, ?_⟩) (by assumption) ?_
    rotate_left
    · intro w hSw; (try dsimp only at hSw); go_simp; try (with_reducible rfl)
    try simp only [Act.put, List.setIfInBounds_toArray, List.set_cons_zero, List.set_cons_succ]
    refine wpAnyH_take (i := 1) (oi := ⟨some 7, _, _, _, _, _⟩) (v := ?_) rfl (by kernel_rfl) (by kernel_rfl) (by kernel_rfl) (fun _ _ _ h => h) (Or.inl ⟨by rfl, ?_⟩) (by assumption) ?_
    rotate_left
    · intro w hSw; (try dsimp only at hSw); go_simp; try (with_reducible rfl)
    try simp only [Act.put, List.setIfInBounds_toArray, List.set_cons_zero, List.set_cons_succ]
    refine wpAnyH_take (i := 2) (oi := ⟨some 8, _, _, _, _, _⟩) (v := ?_) rfl (by kernel_rfl) (by kernel_rfl) (by kernel_rfl) (fun _ _ _ h => h) (Or.inl ⟨by rfl, ?_⟩) (by assumption) ?_
    rotate_left
    · intro w hSw; (try dsimp only at hSw); go_simp; try (with_reducible rfl)
    try simp only [Act.put, List.setIfInBounds_toArray, List.set_cons_zero, List.set_cons_succ]
    refine wpAnyH_take (i := 3) (oi := ⟨some 9, _, _, _, _, _⟩) (v := ?_) rfl (by kernel_rfl) (by kernel_rfl) (by kernel_rfl) (fun _ _ _ h => h) (Or.inl ⟨by rfl, ?_⟩) (by assumption) ?_
    rotate_left
    · intro w hSw; (try dsimp only at hSw); go_simp; try (with_reducible rfl)
    try simp only [Act.put, List.setIfInBounds_toArray, List.set_cons_zero, List.set_cons_succ]
    refine wpAnyH_take (i := 5) (oi := ⟨some 11, _, _, _, _, _⟩) (v := ?_) rfl (by kernel_rfl) (by kernel_rfl) (by kernel_rfl) (fun _ _ _ h => h) (Or.inl ⟨by rfl, ?_⟩) (by assumption) ?_
    rotate_left
    · intro w hSw; (try dsimp only at hSw); go_simp; try (with_reducible rfl)
    try simp only [Act.put, List.setIfInBounds_toArray, List.set_cons_zero, List.set_cons_succ]
    refine wpAnyH_take (i := 6) (oi := ⟨some 12, _, _, _, _, _⟩) (v := ?_) rfl (by kernel_rfl) (by kernel_rfl) (by kernel_rfl) (fun _ _ _ h => h) (Or.inl ⟨by rfl, ?_⟩) (by assumption) ?_
    rotate_left
    · intro w hSw; (try dsimp only at hSw); go_simp; try (with_reducible rfl)
    try simp only [Act.put, List.setIfInBounds_toArray, List.set_cons_zero, List.set_cons_succ]
    refine wpAnyH_take (i := 7) (oi := ⟨some 13, _, _, _, _, _⟩) (v := ?_) rfl (by kernel_rfl) (by kernel_rfl) (by kernel_rfl) (fun _ _ _ h => h) (Or.inl ⟨by rfl, ?_⟩) (by assumption) ?_
    rotate_left
    · intro w hSw; (try dsimp only at hSw); go_simp; try (with_reducible rfl)
    try simp only [Act.put, List.setIfInBounds_toArray, List.set_cons_zero, List.set_cons_succ]
    refine wpAnyH_take (i := 8) (oi := ⟨some 14, _, _, _, _, _⟩) (v := ?_) rfl (by kernel_rfl) (by kernel_rfl) (by kernel_rfl) (fun _ _ _ h => h) (Or.inl ⟨by rfl, ?_⟩) (by assumption) ?_
    rotate_left
    · intro w hSw; (try dsimp only at hSw); go_simp; try (with_reducible rfl)
    try simp only [Act.put, List.setIfInBounds_toArray, List.set_cons_zero, List.set_cons_succ]
    refine wpAnyH_take (i := 9) (oi := ⟨some 15, _, _, _, _, _⟩) (v := ?_) rfl (by kernel_rfl) (by kernel_rfl) (by kernel_rfl) (fun _ _ _ h => h) (Or.inl ⟨by rfl, ?_⟩) (by assumption) ?_
    rotate_left
    · intro w hSw; (try dsimp only at hSw); go_simp; try (with_reducible rfl)
    try simp only [Act.put, List.setIfInBounds_toArray, List.set_cons_zero, List.set_cons_succ]
    refine wpAnyH_take (i := 10) (oi := ⟨some 16, _, _, _, _, _⟩) (v := ?_) rfl (by kernel_rfl) (by kernel_rfl) (by kernel_rfl) (fun _ _ _ h => h) (Or.inl ⟨by rfl, ?_⟩) (by assumption) ?_
    rotate_left
    · intro w hSw; (try dsimp only at hSw); go_simp; try (with_reducible rfl)
    try simp only [Act.put, List.setIfInBounds_toArray, List.set_cons_zero, List.set_cons_succ]
    refine wpAnyH_ready (rs := [4, 11]) (by kernel_rfl) (by simp) ?_
    refine AllReadyH.cons (o := ⟨some 10, _, _, _, _, _⟩) rfl (fun K hK => ?_) (AllReadyH.cons (o := ⟨some 17, _, _, _, _, _⟩) rfl (fun K hK => ?_) AllReadyH.nil)
    · go_simp
      refine hK.out _ _ ?_ (fun hHeld => ?_)
      · (try dsimp only); go_keep
      clear hK K
      try simp only [Act.put, List.setIfInBounds_toArray, List.set_cons_zero, List.set_cons_succ]
      refine wpAnyH_ready (rs := [11]) (by kernel_rfl) (by simp) ?_
      refine AllReadyH.cons (o := ⟨some 17, _, _, _, _, _⟩) rfl (fun K hK => ?_) AllReadyH.nil
      go_simp
      refine hK.out _ _ ?_ (fun hHeld => ?_)
      · (try dsimp only); go_keep
      clear hK K
      try simp only [Act.put, List.setIfInBounds_toArray, List.set_cons_zero, List.set_cons_succ]
      refine wpAnyH_ready (rs := [12]) (by kernel_rfl) (by simp) ?_
      refine AllReadyH.cons (o := ⟨some 18, _, _, _, _, _⟩) rfl (fun K hK => ?_) AllReadyH.nil
      refine step_append_lies _ (by rfl) (.tmp 10) (.tmp 17) 63 (by rfl) base 67 i0 _ 3 24 Try.underlying63 hi0 hz0 hz1 hz2 rfl (by omega) v xs.length (fl xs) (by rfl) HRN.out ⟨w.heap.size + 1, 0, none⟩ 1 1 (It.cells ⟨k, nm, next⟩) (by rfl) (by rfl) (World.news_of_block (cs := #[.int .i64 k, .int .i64 nm, .int .i64 next]) (t := 67) (fr := (0, 0)) HNB.out) (by simp [Value.oneCell', It.cells]) (by omega) (by unfold maxLen; have := HL.out; omega) (by have := HL.out; omega) HBS.out (w.heap.size + 2) (by simp) ?_
      intro g cap w1 hown hgrow hat hlt
      have A1 := Lib.hid (grown_keep hgrow HON.out (owns_ne HRN.out HON.out (by decide)))
      have A2 := Lib.hid (grown_keep hgrow HBX.out (owns_ne HRN.out HBX.out (by decide)))
      have HOW := Lib.hid hown
      have HGR := Lib.hid hgrow
      have HAT := Lib.hid hat
      clear hown hgrow hat hlt
      refine hK.out _ _ ?_ (fun hHeld => ?_)
      · (try dsimp only); exact ⟨(cell_of_blk A2.out 0).trans rfl, (cell_of_blk A2.out 1).trans rfl, (cell_of_blk A1.out 2).trans rfl⟩
      clear hK K
      try simp only [Act.put, List.setIfInBounds_toArray, List.set_cons_zero, List.set_cons_succ]
      refine wpAnyH_take (i := 13) (oi := ⟨some 19, _, _, _, _, _⟩) (v := ?_) rfl (by kernel_rfl) (by kernel_rfl) (by kernel_rfl) (fun _ _ _ h => h) (Or.inl ⟨by rfl, ?_⟩) (by assumption) ?_
      rotate_left
      · intro w hSw; (try dsimp only at hSw); go_simp; try (with_reducible rfl)
      try simp only [Act.put, List.setIfInBounds_toArray, List.set_cons_zero, List.set_cons_succ]
      refine wpAnyH_take (i := 14) (oi := ⟨some 20, _, _, _, _, _⟩) (v := ?_) rfl (by kernel_rfl) (by kernel_rfl) (by kernel_rfl) (fun _ _ _ h => h) (Or.inl ⟨by rfl, ?_⟩) (by assumption) ?_
      rotate_left
      · intro w hSw; (try dsimp only at hSw); go_simp; try (with_reducible rfl)
      try simp only [Act.put, List.setIfInBounds_toArray, List.set_cons_zero, List.set_cons_succ]
      refine wpAnyH_ready (rs := [15]) (by kernel_rfl) (by simp) ?_
      refine AllReadyH.cons (o := ⟨none, _, _, _, _, _⟩) rfl (fun K hK => ?_) AllReadyH.nil
      have hs1 : w1.cell? ⟨hb, 1, none⟩ = some v := (cell_of_blk A1.out 1).trans rfl
      have hs2 : w1.frozen? ⟨hb, 1, none⟩ = false := free_of_blk A1.out 1
      go_simp
      clear hs1 hs2
      have A3 := Lib.hid (setCell_blk A1.out 1 (.slice (some ⟨g, 0, none⟩) (xs.length + 1) cap))
      have A4 := Lib.hid (setCell_far A2.out ⟨hb, 1, none⟩ HNE.out (.slice (some ⟨g, 0, none⟩) (xs.length + 1) cap))
      refine hK.out _ _ ?_ (fun hHeld => ?_)
      · (try dsimp only); exact ⟨(cell_of_blk A4.out 0).trans rfl, (cell_of_blk A4.out 1).trans rfl, (cell_of_blk A3.out 2).trans rfl⟩
      clear hK K
      try simp only [Act.put, List.setIfInBounds_toArray, List.set_cons_zero, List.set_cons_succ]
      refine wpAnyH_done (by kernel_rfl) ?_ _
      go_wp2_with fail
      go_meet
      exact ⟨g, cap, A3.out, (ownsRow_setCell_other HOW.out (by have := owns_ne HOW.out A1.out (by decide); exact this) _ : World.ownsRow _ _ _ _ _ _ _), HAT.out, mid_fr HRN.out HGR.out⟩
    · go_simp
      refine hK.out _ _ ?_ (fun hHeld => ?_)
      · (try dsimp only); go_keep
      clear hK K
      try simp only [Act.put, List.setIfInBounds_toArray, List.set_cons_zero, List.set_cons_succ]
      refine wpAnyH_ready (rs := [4]) (by kernel_rfl) (by simp) ?_
      refine AllReadyH.cons (o := ⟨some 10, _, _, _, _, _⟩) rfl (fun K hK => ?_) AllReadyH.nil
      go_simp
      refine hK.out _ _ ?_ (fun hHeld => ?_)
      · (try dsimp only); go_keep
      clear hK K
      try simp only [Act.put, List.setIfInBounds_toArray, List.set_cons_zero, List.set_cons_succ]
      refine wpAnyH_ready (rs := [12]) (by kernel_rfl) (by simp) ?_
      refine AllReadyH.cons (o := ⟨some 18, _, _, _, _, _⟩) rfl (fun K hK => ?_) AllReadyH.nil
      refine step_append_lies _ (by rfl) (.tmp 10) (.tmp 17) 63 (by rfl) base 67 i0 _ 3 24 Try.underlying63 hi0 hz0 hz1 hz2 rfl (by omega) v xs.length (fl xs) (by rfl) HRN.out ⟨w.heap.size + 1, 0, none⟩ 1 1 (It.cells ⟨k, nm, next⟩) (by rfl) (by rfl) (World.news_of_block (cs := #[.int .i64 k, .int .i64 nm, .int .i64 next]) (t := 67) (fr := (0, 0)) HNB.out) (by simp [Value.oneCell', It.cells]) (by omega) (by unfold maxLen; have := HL.out; omega) (by have := HL.out; omega) HBS.out (w.heap.size + 2) (by simp) ?_
      intro g cap w1 hown hgrow hat hlt
      have A1 := Lib.hid (grown_keep hgrow HON.out (owns_ne HRN.out HON.out (by decide)))
      have A2 := Lib.hid (grown_keep hgrow HBX.out (owns_ne HRN.out HBX.out (by decide)))
      have HOW := Lib.hid hown
      have HGR := Lib.hid hgrow
      have HAT := Lib.hid hat
      clear hown hgrow hat hlt
      refine hK.out _ _ ?_ (fun hHeld => ?_)
      · (try dsimp only); exact ⟨(cell_of_blk A2.out 0).trans rfl, (cell_of_blk A2.out 1).trans rfl, (cell_of_blk A1.out 2).trans rfl⟩
      clear hK K
      try simp only [Act.put, List.setIfInBounds_toArray, List.set_cons_zero, List.set_cons_succ]
      refine wpAnyH_take (i := 13) (oi := ⟨some 19, _, _, _, _, _⟩) (v := ?_) rfl (by kernel_rfl) (by kernel_rfl) (by kernel_rfl) (fun _ _ _ h => h) (Or.inl ⟨by rfl, ?_⟩) (by assumption) ?_
      rotate_left
      · intro w hSw; (try dsimp only at hSw); go_simp; try (with_reducible rfl)
      try simp only [Act.put, List.setIfInBounds_toArray, List.set_cons_zero, List.set_cons_succ]
      refine wpAnyH_take (i := 14) (oi := ⟨some 20, _, _, _, _, _⟩) (v := ?_) rfl (by kernel_rfl) (by kernel_rfl) (by kernel_rfl) (fun _ _ _ h => h) (Or.inl ⟨by rfl, ?_⟩) (by assumption) ?_
      rotate_left
      · intro w hSw; (try dsimp only at hSw); go_simp; try (with_reducible rfl)
      try simp only [Act.put, List.setIfInBounds_toArray, List.set_cons_zero, List.set_cons_succ]
      refine wpAnyH_ready (rs := [15]) (by kernel_rfl) (by simp) ?_
      refine AllReadyH.cons (o := ⟨none, _, _, _, _, _⟩) rfl (fun K hK => ?_) AllReadyH.nil
      have hs1 : w1.cell? ⟨hb, 1, none⟩ = some v := (cell_of_blk A1.out 1).trans rfl
      have hs2 : w1.frozen? ⟨hb, 1, none⟩ = false := free_of_blk A1.out 1
      go_simp
      clear hs1 hs2
      have A3 := Lib.hid (setCell_blk A1.out 1 (.slice (some ⟨g, 0, none⟩) (xs.length + 1) cap))
      have A4 := Lib.hid (setCell_far A2.out ⟨hb, 1, none⟩ HNE.out (.slice (some ⟨g, 0, none⟩) (xs.length + 1) cap))
      refine hK.out _ _ ?_ (fun hHeld => ?_)
      · (try dsimp only); exact ⟨(cell_of_blk A4.out 0).trans rfl, (cell_of_blk A4.out 1).trans rfl, (cell_of_blk A3.out 2).trans rfl⟩
      clear hK K
      try simp only [Act.put, List.setIfInBounds_toArray, List.set_cons_zero, List.set_cons_succ]
      refine wpAnyH_done (by kernel_rfl) ?_ _
      go_wp2_with fail
      go_meet
      exact ⟨g, cap, A3.out, (ownsRow_setCell_other HOW.out (by have := owns_ne HOW.out A1.out (by decide); exact this) _ : World.ownsRow _ _ _ _ _ _ _), HAT.out, mid_fr HRN.out HGR.out⟩
  case rest =>
    obtain ⟨g, cap, hO', hR', hat, hfr⟩ := hcut
    have c1 : wc.cell? ⟨hb, 1, none⟩ = some (.slice (some ⟨g, 0, none⟩) (xs.length + 1) cap) := (cell_of_blk hO' 1).trans rfl
    have c2 : wc.cell? ⟨hb, 2, none⟩ = some (.int .i64 next) := (cell_of_blk hO' 2).trans rfl
    have z2 : wc.frozen? ⟨hb, 2, none⟩ = false := free_of_blk hO' 2
    have hO2 := Lib.hid (setCell_blk hO' 2 (.int .i64 (next + 1)))
    have hne := owns_ne hR' hO' (by decide)
    have hR2 := Lib.hid (ownsRow_setCell_other hR' (a := ⟨hb, 2, none⟩) hne (.int .i64 (next + 1)))
    have hR3 : HRow (wc.setCell ⟨hb, 2, none⟩ (.int .i64 (next + 1))) base (.slice (some ⟨g, 0, none⟩) (xs.length + 1) cap) (xs ++ [⟨k, nm, next⟩]) := by
      have := hR2.out
      simp only [HRow, fl, flat_snoc, List.length_append, List.length_singleton]
      exact this
    have e1 : (wc.setCell ⟨hb, 2, none⟩ (.int .i64 (next + 1))).cell? ⟨hb, 1, none⟩ = some (.slice (some ⟨g, 0, none⟩) (xs.length + 1) cap) := (cell_of_blk hO2.out 1).trans rfl
    have hup := Lib.hid (up_any hb base f σ HC.out _ (next + 1) (xs ++ [⟨k, nm, next⟩]) xs.length _ hO2.out hR3 (by simp) (by have := HL.out; simp; omega) (up_start HF.out))
    have HHO := Lib.hid hO'
    have HHR := Lib.hid hR'
    have HAT := Lib.hid hat
    have HFR := Lib.hid hfr
    have hbl : (xs.length : Int) ≤ 1000000 := by have := HL.out; omega
    clear hO' hR' hat hfr hR3 hne h1 h2 l0 l1
    go_wp2_with (go_at_call 36; ((with_reducible refine (hup.out).mono ?_); rintro e w' ⟨rfl, hm⟩; have HM := Lib.hid hm; clear hm))
    go_end0
    obtain ⟨ys, hM, hF'⟩ := HM.out
    refine ⟨rfl, _, ys, hM.obj, hM.row, hM.perm, hF', ?_, ?_⟩
    · intro g' hg'
      have e : g = g' := by simpa [Value.ownBlock] using hg'
      subst e
      rcases HAT.out with h | h
      · exact Or.inl h
      · right; omega
    · refine (HFR.out.set1 hb 2 (Or.inl rfl) _).step hM.fr (fun i _ h => h) ?_
      intro i hi h
      have e : g = i := by simpa [Value.ownBlock] using h
      subst e
      rcases HAT.out with h | h
      · exact Or.inr h
      · omega

end Go.Proofs.Ytlhgoklojhgfeaa
