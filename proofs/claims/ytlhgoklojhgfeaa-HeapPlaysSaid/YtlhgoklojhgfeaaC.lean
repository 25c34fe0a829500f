/- The contract of before: it answers by key and push, and writes nothing that was there.
   Conditions: both indices lie in the row. -/
import Derived.Test.YtlhgoklojhgfeaaB
namespace Go.Proofs.Ytlhgoklojhgfeaa
open Go.RowKit Go.HeapW
set_option linter.unusedSimpArgs false
set_option linter.unusedVariables false

/-- A copy of an element lies in block b. -/
def Cp (w : World) (b : Nat) (x : It) : Prop := w.heap[b]? = some (.cells #[.int .i64 x.k, .int .i64 x.n, .int .i64 x.s] 67 (0, 0))

theorem Cp.cells {w : World} {b : Nat} {x : It} (h : Cp w b x) : w.cell? ⟨b, 0, none⟩ = some (.int .i64 x.k) ∧ w.cell? ⟨b, 1, none⟩ = some (.int .i64 x.n) ∧ w.cell? ⟨b, 2, none⟩ = some (.int .i64 x.s) :=
  ⟨(cell_of_blk h 0).trans rfl, (cell_of_blk h 1).trans rfl, (cell_of_blk h 2).trans rfl⟩
theorem Cp.below {w w' : World} {b : Nat} {x : It} (h : Cp w b x) (hb : Below w.heap.size w w') : Cp w' b x := (hb.block b (lt_of_block h)).trans h

theorem undrew {w w' : World} (h : Below w.drew.heap.size w.drew w') : Below w.heap.size w w' := ⟨h.os, h.tape, h.output, h.size, h.block⟩

/-- What region 1 leaves: two copies, in whichever order. -/
theorem two_new (w : World) (x y : It) : ∃ b1 b2 : Nat, Value.pointer (some ⟨w.heap.size, 0, none⟩) = .pointer (some ⟨b1, 0, none⟩) ∧ Value.pointer (some ⟨w.heap.size + 1, 0, none⟩) = .pointer (some ⟨b2, 0, none⟩) ∧
    Cp ((w.alloc (.cells #[.int .i64 x.k, .int .i64 x.n, .int .i64 x.s] 67)).alloc (.cells #[.int .i64 y.k, .int .i64 y.n, .int .i64 y.s] 67)).drew b1 x ∧
    Cp ((w.alloc (.cells #[.int .i64 x.k, .int .i64 x.n, .int .i64 x.s] 67)).alloc (.cells #[.int .i64 y.k, .int .i64 y.n, .int .i64 y.s] 67)).drew b2 y ∧
    Below w.heap.size w ((w.alloc (.cells #[.int .i64 x.k, .int .i64 x.n, .int .i64 x.s] 67)).alloc (.cells #[.int .i64 y.k, .int .i64 y.n, .int .i64 y.s] 67)).drew :=
  ⟨w.heap.size, w.heap.size + 1, rfl, rfl, alloc_keep (alloc_new w _) _, by
    have h := alloc_new (w.alloc (.cells #[.int .i64 x.k, .int .i64 x.n, .int .i64 x.s] 67)) (.cells #[.int .i64 y.k, .int .i64 y.n, .int .i64 y.s] 67)
    rw [World.size_alloc] at h
    exact h, (((Below.refl _ _).alloc (Nat.le_refl _) _).alloc (by simp) _).drew⟩
theorem two_new' (w : World) (x y : It) : ∃ b1 b2 : Nat, Value.pointer (some ⟨w.heap.size + 1, 0, none⟩) = .pointer (some ⟨b1, 0, none⟩) ∧ Value.pointer (some ⟨w.heap.size, 0, none⟩) = .pointer (some ⟨b2, 0, none⟩) ∧
    Cp ((w.alloc (.cells #[.int .i64 y.k, .int .i64 y.n, .int .i64 y.s] 67)).alloc (.cells #[.int .i64 x.k, .int .i64 x.n, .int .i64 x.s] 67)).drew b1 x ∧
    Cp ((w.alloc (.cells #[.int .i64 y.k, .int .i64 y.n, .int .i64 y.s] 67)).alloc (.cells #[.int .i64 x.k, .int .i64 x.n, .int .i64 x.s] 67)).drew b2 y ∧
    Below w.heap.size w ((w.alloc (.cells #[.int .i64 y.k, .int .i64 y.n, .int .i64 y.s] 67)).alloc (.cells #[.int .i64 x.k, .int .i64 x.n, .int .i64 x.s] 67)).drew := by
  obtain ⟨b1, b2, h1, h2, h3, h4, h5⟩ := two_new w y x
  exact ⟨b2, b1, h2, h1, h4, h3, h5⟩

set_option maxHeartbeats 4000000 in
theorem before_any (hb base : Nat) (f : Nat) (σ : Int → Int) (hc : Cmp f σ) (v : Value) (next : Int) (xs : List It) (i j : Nat) (x y : It) (w : World)
    (hO : HObj w hb (fv f) v next) (hR : HRow w base v xs) (hi : xs[i]? = some x) (hj : xs[j]? = some y) :
    Calls Try.prog 40 #[.pointer (some ⟨hb, 0, none⟩), .int .i64 i, .int .i64 j] w fun e w' => e = .returned (.bool (bef σ x y)) ∧ Below w.heap.size w w' := by
  obtain ⟨g, cap, rfl, hcap, hgl, _⟩ := row_at hR (by have := (List.getElem?_eq_some_iff.1 hi).1; omega)
  have h0 : w.cell? ⟨hb, 0, none⟩ = some (fv f) := (cell_of_blk hO 0).trans rfl
  have h1 : w.cell? ⟨hb, 1, none⟩ = some (.slice (some ⟨g, 0, none⟩) xs.length cap) := (cell_of_blk hO 1).trans rfl
  obtain ⟨c0, c1, c2⟩ := row_cells hR hi
  obtain ⟨d0, d1, d2⟩ := row_cells hR hj
  have hil : (i : Int) < xs.length := by have := (List.getElem?_eq_some_iff.1 hi).1; omega
  have hjl : (j : Int) < xs.length := by have := (List.getElem?_eq_some_iff.1 hj).1; omega
  have p0 : (0 : Int) ≤ i := by omega
  have p1 : (0 : Int) ≤ j := by omega
  have e0 := World.new_ne w _ h0
  have e1 := World.new_ne w _ c0
  have HO := Lib.hid hO
  have hcf := hc.1
  have HC := Lib.hid hc.2
  clear hO hR hi hj hc hcap hgl
  obtain ⟨n, hn⟩ : ∃ n, n = xs.length := ⟨_, rfl⟩
  rw [← hn] at h1 hil hjl HO
  clear hn
  go_enter Try.func40, Try.ntmps40
  go_upto_region 1 with fail
  go_cut [7, 8] (fun s7 s8 wx => ∃ b1 b2 : Nat, s7 = .pointer (some ⟨b1, 0, none⟩) ∧ s8 = .pointer (some ⟨b2, 0, none⟩) ∧ Cp wx b1 x ∧ Cp wx b2 y ∧ Below w.heap.size w wx)
  case first =>
    go_region_held3 (fun w' => w'.cell? ⟨hb, 1, none⟩ = some (.slice (some ⟨g, 0, none⟩) n cap) ∧
      w'.cell? ⟨g, i*3, none⟩ = some (.int .i64 x.k) ∧ w'.cell? ⟨g, i*3+1, none⟩ = some (.int .i64 x.n) ∧ w'.cell? ⟨g, i*3+2, none⟩ = some (.int .i64 x.s)
      ∧ w'.cell? ⟨g, j*3, none⟩ = some (.int .i64 y.k) ∧ w'.cell? ⟨g, j*3+1, none⟩ = some (.int .i64 y.n) ∧ w'.cell? ⟨g, j*3+2, none⟩ = some (.int .i64 y.s)) (go_keep) (fail)
    all_goals go_wp2_with fail
    all_goals go_meet
    all_goals first | exact two_new w x y | exact two_new' w x y
  case rest =>
    obtain ⟨b1, b2, rfl, rfl, hx, hy, hbe⟩ := hcut
    clear c0 c1 c2 d0 d1 d2 h1 e0 e1 h0
    obtain ⟨x0, x1, x2⟩ := hx.cells
    obtain ⟨y0, y1, y2⟩ := hy.cells
    have h0 : wc.cell? ⟨hb, 0, none⟩ = some (fv f) := (hbe.cell (p := ⟨hb, 0, none⟩) (lt_of_block HO.out)).trans ((cell_of_blk HO.out 0).trans rfl)
    have l0 : hb < wc.heap.size := Nat.lt_of_lt_of_le (lt_of_block HO.out) hbe.size
    have l1 := lt_of_block hx
    have l2 := lt_of_block hy
    have HX := Lib.hid hx
    have HY := Lib.hid hy
    have HB := Lib.hid hbe
    clear hx hy hbe
    go_upto_region 2 with fail
    go_cut [31] (fun s31 wx => s31 = .bool (decide (σ x.k < σ y.k)) ∧ Below wc.heap.size wc wx)
    case first =>
      go_region_held3 (fun w' => w'.cell? ⟨hb, 0, none⟩ = some (fv f) ∧ w'.cell? ⟨b1, 0, none⟩ = some (.int .i64 x.k) ∧ w'.cell? ⟨b1, 1, none⟩ = some (.int .i64 x.n) ∧
         w'.cell? ⟨b2, 0, none⟩ = some (.int .i64 y.k) ∧ w'.cell? ⟨b2, 1, none⟩ = some (.int .i64 y.n)) (first | go_keep) ((refine (HC.out _ _ _ _ _).mono ?_; rintro e w' ⟨rfl, hq⟩; have hq' := undrew hq; have hq1 := (bcell hq').1; clear hq))
      all_goals go_wp2_with fail
      all_goals go_meet
      all_goals exact ⟨rfl, hq'⟩
    case rest =>
      obtain ⟨rfl, hbe⟩ := hcut
      rename_i wd
      have h0 : wc.cell? ⟨hb, 0, none⟩ = some (fv f) := (hbe.cell (p := ⟨hb, 0, none⟩) l0).trans h0
      have HX' := Lib.hid (HX.out.below hbe)
      have HY' := Lib.hid (HY.out.below hbe)
      obtain ⟨x0, x1, x2⟩ := HX'.out.cells
      obtain ⟨y0, y1, y2⟩ := HY'.out.cells
      have HB' := Lib.hid (HB.out.trans (hbe.mono HB.out.size))
      have l0 : hb < wc.heap.size := Nat.lt_of_lt_of_le l0 hbe.size
      have l1 := lt_of_block HX'.out
      have l2 := lt_of_block HY'.out
      clear HX HY HB hbe
      by_cases hlt : σ x.k < σ y.k
      · have hd : decide (σ x.k < σ y.k) = true := decide_eq_true hlt
        have he : bef σ x y = true := by simp [bef, hlt]
        rw [hd]
        have HE := Lib.hid he
        clear he hd hlt
        go_wp2
        go_ret
        exact ⟨by rw [HE.out]; rfl, HB'.out⟩
      · have hd : decide (σ x.k < σ y.k) = false := decide_eq_false hlt
        have he : bef σ x y = (!decide (σ y.k < σ x.k) && decide (x.s < y.s)) := by simp [bef, hlt]
        rw [hd]
        by_cases hl2 : σ y.k < σ x.k
        · have he2 : bef σ x y = false := by rw [he]; simp [hl2]
          have hd2 : decide (σ y.k < σ x.k) = true := decide_eq_true hl2
          have HE := Lib.hid he2
          clear he he2 hl2 hlt hd
          go_upto_region 4 with fail
          refine wp_region_held_drew (S := fun w' => w'.cell? ⟨hb, 0, none⟩ = some (fv f) ∧ w'.cell? ⟨b1, 0, none⟩ = some (.int .i64 x.k) ∧ w'.cell? ⟨b1, 1, none⟩ = some (.int .i64 x.n) ∧ w'.cell? ⟨b1, 2, none⟩ = some (.int .i64 x.s) ∧ w'.cell? ⟨b2, 0, none⟩ = some (.int .i64 y.k) ∧ w'.cell? ⟨b2, 1, none⟩ = some (.int .i64 y.n) ∧ w'.cell? ⟨b2, 2, none⟩ = some (.int .i64 y.s)) (by kernel_rfl) (by go_keep) (fun hHeld => ?_)
          refine wpAnyH_take (i := 0) (oi := ⟨some 32, _, _, _, _, _⟩) (v := ?_) rfl (by kernel_rfl) (by kernel_rfl) (by kernel_rfl) (fun _ _ _ h => h) (Or.inl ⟨by rfl, ?_⟩) (by assumption) ?_
          rotate_left
          · intro w hSw; (try dsimp only at hSw); go_simp; try (with_reducible rfl)
          try simp only [Act.put, List.setIfInBounds_toArray, List.set_cons_zero, List.set_cons_succ]
          refine wpAnyH_take (i := 1) (oi := ⟨some 33, _, _, _, _, _⟩) (v := ?_) rfl (by kernel_rfl) (by kernel_rfl) (by kernel_rfl) (fun _ _ _ h => h) (Or.inl ⟨by rfl, ?_⟩) (by assumption) ?_
          rotate_left
          · intro w hSw; (try dsimp only at hSw); go_simp; try (with_reducible rfl)
          try simp only [Act.put, List.setIfInBounds_toArray, List.set_cons_zero, List.set_cons_succ]
          refine wpAnyH_take (i := 2) (oi := ⟨some 34, _, _, _, _, _⟩) (v := ?_) rfl (by kernel_rfl) (by kernel_rfl) (by kernel_rfl) (fun _ _ _ h => h) (Or.inl ⟨by rfl, ?_⟩) (by assumption) ?_
          rotate_left
          · intro w hSw; (try dsimp only at hSw); go_simp; try (with_reducible rfl)
          try simp only [Act.put, List.setIfInBounds_toArray, List.set_cons_zero, List.set_cons_succ]
          refine wpAnyH_take (i := 3) (oi := ⟨some 35, _, _, _, _, _⟩) (v := ?_) rfl (by kernel_rfl) (by kernel_rfl) (by kernel_rfl) (fun _ _ _ h => h) (Or.inl ⟨by rfl, ?_⟩) (by assumption) ?_
          rotate_left
          · intro w hSw; (try dsimp only at hSw); go_simp; try (with_reducible rfl)
          try simp only [Act.put, List.setIfInBounds_toArray, List.set_cons_zero, List.set_cons_succ]
          refine wpAnyH_take (i := 4) (oi := ⟨some 36, _, _, _, _, _⟩) (v := ?_) rfl (by kernel_rfl) (by kernel_rfl) (by kernel_rfl) (fun _ _ _ h => h) (Or.inl ⟨by rfl, ?_⟩) (by assumption) ?_
          rotate_left
          · intro w hSw; (try dsimp only at hSw); go_simp; try (with_reducible rfl)
          try simp only [Act.put, List.setIfInBounds_toArray, List.set_cons_zero, List.set_cons_succ]
          refine wpAnyH_take (i := 5) (oi := ⟨some 37, _, _, _, _, _⟩) (v := ?_) rfl (by kernel_rfl) (by kernel_rfl) (by kernel_rfl) (fun _ _ _ h => h) (Or.inl ⟨by rfl, ?_⟩) (by assumption) ?_
          rotate_left
          · intro w hSw; (try dsimp only at hSw); go_simp; try (with_reducible rfl)
          try simp only [Act.put, List.setIfInBounds_toArray, List.set_cons_zero, List.set_cons_succ]
          refine wpAnyH_take (i := 6) (oi := ⟨some 38, _, _, _, _, _⟩) (v := ?_) rfl (by kernel_rfl) (by kernel_rfl) (by kernel_rfl) (fun _ _ _ h => h) (Or.inl ⟨by rfl, ?_⟩) (by assumption) ?_
          rotate_left
          · intro w hSw; (try dsimp only at hSw); go_simp; try (with_reducible rfl)
          try simp only [Act.put, List.setIfInBounds_toArray, List.set_cons_zero, List.set_cons_succ]
          refine wpAnyH_take (i := 7) (oi := ⟨some 39, _, _, _, _, _⟩) (v := ?_) rfl (by kernel_rfl) (by kernel_rfl) (by kernel_rfl) (fun _ _ _ h => h) (Or.inl ⟨by rfl, ?_⟩) (by assumption) ?_
          rotate_left
          · intro w hSw; (try dsimp only at hSw); go_simp; try (with_reducible rfl)
          try simp only [Act.put, List.setIfInBounds_toArray, List.set_cons_zero, List.set_cons_succ]
          refine wpAnyH_ready (rs := [8]) (by kernel_rfl) (by simp) ?_
          refine AllReadyH.cons (o := ⟨some 40, _, _, _, _, _⟩) rfl (fun K hK => ?_) AllReadyH.nil
          go_simp
          refine (HC.out _ _ _ _ _).mono ?_
          rintro e w' ⟨he, hq⟩
          rw [hd2] at he
          subst he
          have hq' := undrew hq
          have hq1 := (bcell hq').1
          clear hq
          refine hK.out _ _ ?_ (fun hHeld => ?_)
          · (try dsimp only); go_keep
          clear hK K
          try simp only [Act.put, List.setIfInBounds_toArray, List.set_cons_zero, List.set_cons_succ]
          refine wpAnyH_take (i := 9) (oi := ⟨some 41, _, _, _, _, _⟩) (v := ?_) rfl (by kernel_rfl) (by kernel_rfl) (by kernel_rfl) (fun _ _ _ h => h) (Or.inl ⟨by rfl, ?_⟩) (by assumption) ?_
          rotate_left
          · intro w hSw; (try dsimp only at hSw); go_simp; try (with_reducible rfl)
          try simp only [Act.put, List.setIfInBounds_toArray, List.set_cons_zero, List.set_cons_succ]
          refine wpAnyH_take (i := 10) (oi := ⟨some 42, _, _, _, _, _⟩) (v := ?_) rfl (by kernel_rfl) (by kernel_rfl) (by kernel_rfl) (fun _ _ _ h => h) (Or.inl ⟨by rfl, ?_⟩) (by assumption) ?_
          rotate_left
          · intro w hSw; (try dsimp only at hSw); go_simp; try (with_reducible rfl)
          try simp only [Act.put, List.setIfInBounds_toArray, List.set_cons_zero, List.set_cons_succ]
          refine wpAnyH_take (i := 11) (oi := ⟨some 43, _, _, _, _, _⟩) (v := undef) rfl (by kernel_rfl) (by kernel_rfl) (by kernel_rfl) (fun _ _ _ h => h) (Or.inr ⟨by rfl, rfl⟩) (by assumption) ?_
          try simp only [Act.put, List.setIfInBounds_toArray, List.set_cons_zero, List.set_cons_succ]
          refine wpAnyH_take (i := 12) (oi := ⟨some 44, _, _, _, _, _⟩) (v := undef) rfl (by kernel_rfl) (by kernel_rfl) (by kernel_rfl) (fun _ _ _ h => h) (Or.inr ⟨by rfl, rfl⟩) (by assumption) ?_
          try simp only [Act.put, List.setIfInBounds_toArray, List.set_cons_zero, List.set_cons_succ]
          refine wpAnyH_take (i := 13) (oi := ⟨some 45, _, _, _, _, _⟩) (v := undef) rfl (by kernel_rfl) (by kernel_rfl) (by kernel_rfl) (fun _ _ _ h => h) (Or.inr ⟨by rfl, rfl⟩) (by assumption) ?_
          try simp only [Act.put, List.setIfInBounds_toArray, List.set_cons_zero, List.set_cons_succ]
          refine wpAnyH_take (i := 14) (oi := ⟨some 46, _, _, _, _, _⟩) (v := undef) rfl (by kernel_rfl) (by kernel_rfl) (by kernel_rfl) (fun _ _ _ h => h) (Or.inr ⟨by rfl, rfl⟩) (by assumption) ?_
          try simp only [Act.put, List.setIfInBounds_toArray, List.set_cons_zero, List.set_cons_succ]
          refine wpAnyH_take (i := 15) (oi := ⟨some 47, _, _, _, _, _⟩) (v := undef) rfl (by kernel_rfl) (by kernel_rfl) (by kernel_rfl) (fun _ _ _ h => h) (Or.inr ⟨by rfl, rfl⟩) (by assumption) ?_
          try simp only [Act.put, List.setIfInBounds_toArray, List.set_cons_zero, List.set_cons_succ]
          refine wpAnyH_take (i := 16) (oi := ⟨some 48, _, _, _, _, _⟩) (v := ?_) rfl (by kernel_rfl) (by kernel_rfl) (by kernel_rfl) (fun _ _ _ h => h) (Or.inl ⟨by rfl, ?_⟩) (by assumption) ?_
          rotate_left
          · intro w hSw; (try dsimp only at hSw); go_simp; try (with_reducible rfl)
          try simp only [Act.put, List.setIfInBounds_toArray, List.set_cons_zero, List.set_cons_succ]
          refine wpAnyH_take (i := 17) (oi := ⟨some 6, _, _, _, _, _⟩) (v := ?_) rfl (by kernel_rfl) (by kernel_rfl) (by kernel_rfl) (fun _ _ _ h => h) (Or.inl ⟨by rfl, ?_⟩) (by assumption) ?_
          rotate_left
          · intro w hSw; (try dsimp only at hSw); go_simp; try (with_reducible rfl)
          try simp only [Act.put, List.setIfInBounds_toArray, List.set_cons_zero, List.set_cons_succ]
          refine wpAnyH_done (by kernel_rfl) ?_ _
          all_goals go_wp2
          all_goals go_ret
          all_goals exact ⟨by rw [HE.out]; rfl, HB'.out.trans (hq'.mono HB'.out.size)⟩
        · have he2 : bef σ x y = decide (x.s < y.s) := by rw [he]; simp [hl2]
          have hd2 : decide (σ y.k < σ x.k) = false := decide_eq_false hl2
          have HE := Lib.hid he2
          clear he he2 hl2 hlt hd
          go_upto_region 4 with fail
          go_region_held3 (fun w' => w'.cell? ⟨hb, 0, none⟩ = some (fv f) ∧ w'.cell? ⟨b1, 0, none⟩ = some (.int .i64 x.k) ∧ w'.cell? ⟨b1, 1, none⟩ = some (.int .i64 x.n) ∧ w'.cell? ⟨b1, 2, none⟩ = some (.int .i64 x.s) ∧
             w'.cell? ⟨b2, 0, none⟩ = some (.int .i64 y.k) ∧ w'.cell? ⟨b2, 1, none⟩ = some (.int .i64 y.n) ∧ w'.cell? ⟨b2, 2, none⟩ = some (.int .i64 y.s)) (first | go_keep) ((refine (HC.out _ _ _ _ _).mono ?_; rintro e w' ⟨he, hq⟩; rw [hd2] at he; subst he; have hq' := undrew hq; have hq1 := (bcell hq').1; clear hq))
          all_goals go_wp2
          all_goals go_ret
          all_goals exact ⟨by rw [HE.out]; rfl, HB'.out.trans (hq'.mono HB'.out.size)⟩

end Go.Proofs.Ytlhgoklojhgfeaa
