/- The contract of Pop: at nil, at an empty heap, at one that holds something: the head comes back, the others stay, in order.
   Conditions: the heap is in order; it holds at most 100,000 elements. -/
import Derived.Test.YtlhgoklojhgfeaaG
namespace Go.Proofs.Ytlhgoklojhgfeaa
open Go.RowKit Go.HeapW Go.HeapP
set_option linter.unusedSimpArgs false
set_option linter.unusedVariables false

/-- The first elements of a row, seen through a shorter slice. -/
theorem row_take {w : World} {base g cap : Nat} {xs : List It} (h : HRow w base (.slice (some ⟨g, 0, none⟩) xs.length cap) xs) (m : Nat) (hm : m ≤ xs.length) : HRow w base (.slice (some ⟨g, 0, none⟩) m cap) (xs.take m) := by
  have hl : (xs.take m).length = m := by simp; omega
  rcases h.2 with ⟨h', _⟩ | ⟨g', cap', cur, h', hb, hg, hn, hcm, hcs, htake⟩
  · simp at h'
  · simp only [Value.slice.injEq, Option.some.injEq, Addr.mk.injEq, and_true, true_and] at h'
    obtain ⟨rfl, rfl⟩ := h'
    refine ⟨fl_length _, .inr ⟨g, cap, cur, by rw [hl], hb, hg, by omega, hcm, hcs, ?_⟩⟩
    rw [hl]
    have e : fl xs = fl (xs.take m) ++ fl (xs.drop m) := by rw [fl, fl, fl, ← flat_append, List.take_append_drop]
    have e2 : cur.toList.take (m * 3) = (fl xs).take (m * 3) := by
      rw [← htake, List.take_take]
      congr 1
      omega
    rw [e2, e]
    have : m * 3 = (fl (xs.take m)).length := by rw [fl_length, hl]
    rw [this, List.take_left]

/-- What is left behind a pop, ahead of the way down. -/
theorem pop_perm {xs : List It} {m : Nat} {x y : It} (hm : xs.length = m + 1) (hx : xs[0]? = some x) (hy : xs[m]? = some y) : (x :: ((xs.set 0 y).take m)).Perm xs := by
  cases xs with
  | nil => simp at hm
  | cons a r =>
    simp only [List.getElem?_cons_zero, Option.some.injEq] at hx
    subst hx
    simp only [List.length_cons, Nat.add_right_cancel_iff] at hm
    cases m with
    | zero =>
      have : r = [] := List.length_eq_zero_iff.1 hm
      subst this
      simp
    | succ k =>
      rw [List.getElem?_cons_succ] at hy
      have hk : k < r.length := by omega
      have hr : r = r.take k ++ [y] := by
        have h1 := List.take_append_drop k r
        have h2 : r.drop k = [y] := by
          rw [List.drop_eq_getElem_cons hk]
          have : r[k] = y := by rw [List.getElem?_eq_getElem hk] at hy; exact Option.some.inj hy
          rw [this, List.drop_eq_nil_iff.2 (by omega)]
        rw [h2] at h1
        exact h1.symm
      simp only [List.set_cons_zero, List.take_succ_cons]
      refine List.Perm.cons _ ?_
      conv => rhs; rw [hr]
      exact List.perm_append_comm (l₁ := [y])

theorem pop_from {σ : Int → Int} {xs : List It} {m : Nat} {y : It} (h : From (bef σ) xs 0) : From (bef σ) ((xs.set 0 y).take m) 1 := (h.head y).take m

theorem pop_nil (w : World) : Calls Try.prog 24 #[.pointer none] w fun e w' => e = .returned (.tuple #[.agg #[.int .i64 0, .int .i64 0], .bool false]) ∧ Below w.heap.size w w' := by
  go_enter Try.func24, Try.ntmps24
  go_wp2
  exact bodyPost_ret (v := .tuple #[.agg #[.int .i64 0, .int .i64 0], .bool false]) (by simp [results, Try.results24, go_sem]) rfl ⟨rfl, (((Below.refl _ _).alloc (Nat.le_refl _) _).alloc (by simp) _)⟩
theorem pop_empty (hb base : Nat) (lv v : Value) (next : Int) (w : World) (hO : HObj w hb lv v next) (hR : HRow w base v []) :
    Calls Try.prog 24 #[.pointer (some ⟨hb, 0, none⟩)] w fun e w' => e = .returned (.tuple #[.agg #[.int .i64 0, .int .i64 0], .bool false]) ∧ Below w.heap.size w w' := by
  obtain ⟨a, cap, rfl⟩ := row_shape hR
  have h1 : w.cell? ⟨hb, 1, none⟩ = some (.slice a 0 cap) := (cell_of_blk hO 1).trans rfl
  have l0 := lt_of_block hO
  have l1 : hb < w.heap.size + 1 := by omega
  have l2 : hb < w.heap.size + 1 + 1 := by omega
  clear hO hR
  go_enter Try.func24, Try.ntmps24
  go_wp2
  exact bodyPost_ret (v := .tuple #[.agg #[.int .i64 0, .int .i64 0], .bool false]) (by simp [results, Try.results24, go_sem]) rfl ⟨rfl, (((Below.refl _ _).alloc (Nat.le_refl _) _).alloc (by simp) _)⟩

def PopMid (w wx : World) (hb base f g cap m : Nat) (next : Int) (xs : List It) (x y : It) (s2 s5 : Value) : Prop :=
  ∃ b2 b5 : Nat, s2 = .pointer (some ⟨b2, 0, none⟩) ∧ s5 = .pointer (some ⟨b5, 0, none⟩) ∧ w.heap.size ≤ b2 ∧ b2 ≠ b5 ∧ wx.heap[b2]? = some (.cells #[.int .i64 0, .int .i64 0] 26 (0, 0)) ∧ wx.heap[b5]? = some (.cells #[.int .i64 x.k, .int .i64 x.n] 26 (0, 0)) ∧
    HObj wx hb (fv f) (.slice (some ⟨g, 0, none⟩) (m + 1) cap) next ∧ HRow wx base (.slice (some ⟨g, 0, none⟩) (m + 1) cap) (xs.set 0 y) ∧ Fr (fun j => j = hb ∨ j = g) w wx

theorem popmid_of {w : World} {hb base f g cap m : Nat} {next : Int} {xs : List It} {x y : It} {o1 : Obj} (hO : HObj w hb (fv f) (.slice (some ⟨g, 0, none⟩) xs.length cap) next) (hR : HRow w base (.slice (some ⟨g, 0, none⟩) xs.length cap) xs)
    (hm : xs.length = m + 1) (hne : hb ≠ g) :
    PopMid w ((((((w.setCell ⟨g, 0, none⟩ (.int .i64 y.k)).setCell ⟨g, 1, none⟩ (.int .i64 y.n)).setCell ⟨g, 2, none⟩ (.int .i64 y.s)).alloc (.cells #[.int .i64 0, .int .i64 0] 26)).alloc o1).alloc (.cells #[.int .i64 x.k, .int .i64 x.n] 26)).drew
      hb base f g cap m next xs x y (.pointer (some ⟨w.heap.size, 0, none⟩)) (.pointer (some ⟨w.heap.size + 1 + 1, 0, none⟩)) := by
  have hst := row_store hR 0 y
  rw [Nat.zero_mul] at hst
  have e : (xs.set 0 y).length = xs.length := List.length_set
  have hO1 : HObj (((w.setCell ⟨g, 0, none⟩ (.int .i64 y.k)).setCell ⟨g, 1, none⟩ (.int .i64 y.n)).setCell ⟨g, 2, none⟩ (.int .i64 y.s)) hb (fv f) (.slice (some ⟨g, 0, none⟩) xs.length cap) next :=
    setCell_far (setCell_far (setCell_far hO _ hne _) _ hne _) _ hne _
  have hF1 : Fr (fun j => j = hb ∨ j = g) w (((w.setCell ⟨g, 0, none⟩ (.int .i64 y.k)).setCell ⟨g, 1, none⟩ (.int .i64 y.n)).setCell ⟨g, 2, none⟩ (.int .i64 y.s)) := by
    iterate 3 refine Fr.set1 ?_ _ _ (by exact Or.inr rfl) _
    exact Fr.refl _ w
  have hs : (((w.setCell ⟨g, 0, none⟩ (.int .i64 y.k)).setCell ⟨g, 1, none⟩ (.int .i64 y.n)).setCell ⟨g, 2, none⟩ (.int .i64 y.s)).heap.size = w.heap.size := by simp [World.setCell]
  simp only [HRow, e, Nat.zero_add] at hst
  generalize (((w.setCell ⟨g, 0, none⟩ (.int .i64 y.k)).setCell ⟨g, 1, none⟩ (.int .i64 y.n)).setCell ⟨g, 2, none⟩ (.int .i64 y.s)) = W at hst hO1 hF1 hs ⊢
  rw [← hs]
  refine ⟨_, _, rfl, rfl, by omega, by omega, alloc_keep (alloc_keep (alloc_new W _) _) _, ?_, ?_, ?_, ?_⟩
  · have h := alloc_new ((W.alloc (.cells #[.int .i64 0, .int .i64 0] 26)).alloc o1) (.cells #[.int .i64 x.k, .int .i64 x.n] 26)
    rw [World.size_alloc, World.size_alloc] at h
    exact h
  · rw [← hm]
    exact alloc_keep (alloc_keep (alloc_keep hO1 _) _) _
  · refine World.ownsRow.drew ?_
    rw [← hm, e]
    exact ((hst.alloc _).alloc _).alloc _
  · exact (((hF1.alloc _).alloc _).alloc _).drew

/-- The world ahead of the way down. -/
abbrev PopW (wc : World) (hb g cap m : Nat) : World := (((wc.setCell ⟨g, m * 3, none⟩ (.int .i64 0)).setCell ⟨g, m * 3 + 1, none⟩ (.int .i64 0)).setCell ⟨g, m * 3 + 2, none⟩ (.int .i64 0)).setCell ⟨hb, 1, none⟩ (.slice (some ⟨g, 0, none⟩) m cap)

theorem pop_ahead {wc : World} {hb base f g cap m : Nat} {next : Int} {zs : List It} (hO : HObj wc hb (fv f) (.slice (some ⟨g, 0, none⟩) (m + 1) cap) next) (hR : HRow wc base (.slice (some ⟨g, 0, none⟩) zs.length cap) zs)
    (hl : zs.length = m + 1) (hne : hb ≠ g) :
    HObj (PopW wc hb g cap m) hb (fv f) (.slice (some ⟨g, 0, none⟩) m cap) next ∧ HRow (PopW wc hb g cap m) base (.slice (some ⟨g, 0, none⟩) m cap) (zs.take m) ∧ Fr (fun j => j = hb ∨ j = g) wc (PopW wc hb g cap m) ∧
      (∀ b o, b ≠ hb → b ≠ g → wc.heap[b]? = some o → (PopW wc hb g cap m).heap[b]? = some o) := by
  have hst := row_store hR m ⟨0, 0, 0⟩
  have e : (zs.set m ⟨0, 0, 0⟩).length = zs.length := List.length_set
  have hO1 : HObj (((wc.setCell ⟨g, m * 3, none⟩ (.int .i64 0)).setCell ⟨g, m * 3 + 1, none⟩ (.int .i64 0)).setCell ⟨g, m * 3 + 2, none⟩ (.int .i64 0)) hb (fv f) (.slice (some ⟨g, 0, none⟩) (m + 1) cap) next :=
    setCell_far (setCell_far (setCell_far hO _ hne _) _ hne _) _ hne _
  rw [← e] at hst
  have ht := row_take hst m (by rw [e, hl]; omega)
  have et : (zs.set m ⟨0, 0, 0⟩).take m = zs.take m := by
    rw [List.take_set]
    apply List.set_eq_of_length_le
    simp
    omega
  rw [et] at ht
  refine ⟨(setCell_blk hO1 1 _).trans rfl, ownsRow_setCell_other ht (fun h => hne (by simpa [Value.ownBlock] using h.symm)) _, ?_, ?_⟩
  · refine Fr.set1 ?_ _ _ (by exact Or.inl rfl) _
    iterate 3 refine Fr.set1 ?_ _ _ (by exact Or.inr rfl) _
    exact Fr.refl _ wc
  · intro b o hbh hbg ho
    exact setCell_far (setCell_far (setCell_far (setCell_far ho _ hbg _) _ hbg _) _ hbg _) _ hbh _

set_option maxHeartbeats 400000 in
theorem pop_some (hb base : Nat) (f : Nat) (σ : Int → Int) (hc : Cmp f σ) (v : Value) (next : Int) (xs : List It) (x : It) (w : World)
    (hO : HObj w hb (fv f) v next) (hR : HRow w base v xs) (hx : xs[0]? = some x) (hlen : xs.length ≤ 100000) (hF : From (bef σ) xs 0) :
    Calls Try.prog 24 #[.pointer (some ⟨hb, 0, none⟩)] w fun e w' => e = .returned (.tuple #[.agg #[.int .i64 x.k, .int .i64 x.n], .bool true]) ∧
      ∃ v' ys, HObj w' hb (fv f) v' next ∧ HRow w' base v' ys ∧ (x :: ys).Perm xs ∧ From (bef σ) ys 0 ∧ (∀ g, v'.ownBlock = some g → v.ownBlock = some g) ∧ Fr (fun j => j = hb ∨ v.ownBlock = some j) w w' := by
  obtain ⟨g, cap, rfl, hcap, hgl, _⟩ := row_at hR (lt_of_get hx)
  obtain ⟨m, hm⟩ : ∃ m, xs.length = m + 1 := ⟨xs.length - 1, by have := lt_of_get hx; omega⟩
  obtain ⟨y, hy⟩ : ∃ y, xs[m]? = some y := ⟨_, List.getElem?_eq_getElem (by omega)⟩
  have h1 : w.cell? ⟨hb, 1, none⟩ = some (.slice (some ⟨g, 0, none⟩) (m + 1) cap) := by rw [← hm]; exact (cell_of_blk hO 1).trans rfl
  obtain ⟨c0, c1, c2⟩ := row_cells hR hx
  obtain ⟨d0, d1, d2⟩ := row_cells hR hy
  rw [Nat.zero_mul] at c0 c1 c2
  rw [Nat.zero_add] at c1 c2
  have hz : ((m : Int) + 1 == 0) = false := beq_eq_false_iff_ne.2 (by omega)
  have hbm : (m : Int) ≤ 100000 := by omega
  have l0 := lt_of_block hO
  have l1 : hb < w.heap.size + 1 := by omega
  have l2 : hb < w.heap.size + 1 + 1 := by omega
  have g1 : g < w.heap.size + 1 := by omega
  have g2 : g < w.heap.size + 1 + 1 := by omega
  have g3 : g < w.heap.size + 1 + 1 + 1 := by omega
  have l3 : hb < w.heap.size + 1 + 1 + 1 := by omega
  have hf : ∀ o, w.frozen? ⟨g, o, none⟩ = false := fun o => hR.frozenAt o
  have hne : hb ≠ g := fun e => owns_ne hR hO (by decide) (by rw [e]; rfl)
  have HO := Lib.hid hO
  have HR := Lib.hid hR
  have HX := Lib.hid hx
  have HY := Lib.hid hy
  have HM := Lib.hid hm
  have HC := Lib.hid hc
  have HF := Lib.hid hF
  have HN := Lib.hid hne
  clear hO hR hx hy hm hc hF hlen hcap
  go_enter Try.func24, Try.ntmps24
  go_upto_region 6 with fail
  go_cut [2, 3, 5, 6] (fun s2 s3 s5 s6 wx => s6 = .int .i64 m ∧ PopMid w wx hb base f g cap m next xs x y s2 s5)
  case first =>
    go_region
    go_wp2_with fail
    go_meet
    exact ⟨rfl, popmid_of HO.out HR.out HM.out HN.out⟩
  case rest =>
    obtain ⟨rfl, b2, b5, rfl, rfl, hb2, hb25, hB2, hB5, hO', hR', hfr⟩ := hcut
    clear c0 c1 c2 d0 d1 d2 h1 hf hz l0 l1 l2 l3 g1 g2 g3
    have hln : (xs.set 0 y).length = m + 1 := by rw [List.length_set, HM.out]
    obtain ⟨y', hy'⟩ : ∃ y', (xs.set 0 y)[m]? = some y' := ⟨_, List.getElem?_eq_getElem (by omega)⟩
    have hR2 : HRow wc base (.slice (some ⟨g, 0, none⟩) (xs.set 0 y).length cap) (xs.set 0 y) := by rw [hln]; exact hR'
    obtain ⟨d0, d1, d2⟩ := row_cells hR2 hy'
    have hf : ∀ o, wc.frozen? ⟨g, o, none⟩ = false := fun o => hR2.frozenAt o
    have h1 : wc.cell? ⟨hb, 1, none⟩ = some (.slice (some ⟨g, 0, none⟩) (m + 1) cap) := (cell_of_blk hO' 1).trans rfl
    have z1 : wc.frozen? ⟨hb, 1, none⟩ = false := free_of_blk hO' 1
    have hne := HN.out
    have hne' : ¬ g = hb := fun e => HN.out e.symm
    have hmc : (m : Int) ≤ cap := by
      rcases hR2.2 with ⟨h', _⟩ | ⟨g', cap', cur, h', _, _, hn, _⟩
      · simp at h'
      · simp only [Value.slice.injEq, Option.some.injEq, Addr.mk.injEq, and_true, true_and] at h'
        omega
    have HO' := Lib.hid hO'
    have HR2 := Lib.hid hR2
    have HB2 := Lib.hid hB2
    have HB5 := Lib.hid hB5
    have H25 := Lib.hid hb25
    have HLE := Lib.hid hb2
    have HFR := Lib.hid hfr
    have HLN := Lib.hid hln
    clear hO' hR' hR2 hB2 hB5 hfr hln hy' hb25 hb2
    have hpo := Lib.hid (pop_ahead HO'.out HR2.out HLN.out HN.out)
    have hf1 : From (bef σ) ((xs.set 0 y).take m) (0 + 1) := pop_from HF.out
    have hd : Calls Try.prog 39 #[.pointer (some ⟨hb, 0, none⟩), .int .i64 0] (PopW wc hb g cap m) _ :=
      down_any hb base f σ HC.out (.slice (some ⟨g, 0, none⟩) m cap) next ((xs.set 0 y).take m) 0 (PopW wc hb g cap m) hpo.out.1 hpo.out.2.1 (by have := HLN.out; simp only [List.length_take]; omega) (by omega) hf1
    have HD := Lib.hid hd
    clear hd hf1
    have HNE := Lib.hid hne
    go_wp2_with fail
    refine (HD.out).mono ?_
    rintro e w' ⟨rfl, hmv⟩
    obtain ⟨ys, hM, hF'⟩ := hmv
    have b2g : b2 ≠ g := fun h => owns_ne HR2.out HB2.out (by decide) (by rw [h]; rfl)
    have b5g : b5 ≠ g := fun h => owns_ne HR2.out HB5.out (by decide) (by rw [h]; rfl)
    have b2h : b2 ≠ hb := fun h => by have h1 := HB2.out; rw [h, HO'.out] at h1; cases h1
    have b5h : b5 ≠ hb := fun h => by have h1 := HB5.out; rw [h, HO'.out] at h1; cases h1
    have HB2' := Lib.hid (hM.fr.keep (hpo.out.2.2.2 b2 _ b2h b2g HB2.out) (fun h => b2g (by simpa [Value.ownBlock] using h.symm)))
    have HB5' := Lib.hid (hM.fr.keep (hpo.out.2.2.2 b5 _ b5h b5g HB5.out) (fun h => b5g (by simpa [Value.ownBlock] using h.symm)))
    have k0 : w'.cell? ⟨b5, 0, none⟩ = some (.int .i64 x.k) := (cell_of_blk HB5'.out 0).trans rfl
    have k1 : w'.cell? ⟨b5, 1, none⟩ = some (.int .i64 x.n) := (cell_of_blk HB5'.out 1).trans rfl
    have j0 : w'.cell? ⟨b2, 0, none⟩ = some (.int .i64 0) := (cell_of_blk HB2'.out 0).trans rfl
    have j1 : w'.cell? ⟨b2, 1, none⟩ = some (.int .i64 0) := (cell_of_blk HB2'.out 1).trans rfl
    have f0 : w'.frozen? ⟨b2, 0, none⟩ = false := free_of_blk HB2'.out 0
    have f1 : w'.frozen? ⟨b2, 1, none⟩ = false := free_of_blk HB2'.out 1
    have HMM := Lib.hid hM
    have HFF := Lib.hid hF'
    have HB2G := Lib.hid b2g
    have HB2H := Lib.hid b2h
    clear hM hF' b2g b5g b2h b5h d0 d1 d2 hf h1 z1 hne hne' hmc
    go_wp2_with fail
    have hq := setCell_blk (setCell_blk HB2'.out 0 (.int .i64 x.k)) 1 (.int .i64 x.n)
    have r0 : ((w'.setCell ⟨b2, 0, none⟩ (.int .i64 x.k)).setCell ⟨b2, 1, none⟩ (.int .i64 x.n)).cell? ⟨b2, 0, none⟩ = some (.int .i64 x.k) := (cell_of_blk hq 0).trans rfl
    have r1 : ((w'.setCell ⟨b2, 0, none⟩ (.int .i64 x.k)).setCell ⟨b2, 1, none⟩ (.int .i64 x.n)).cell? ⟨b2, 1, none⟩ = some (.int .i64 x.n) := (cell_of_blk hq 1).trans rfl
    refine bodyPost_ret (v := .tuple #[.agg #[.int .i64 x.k, .int .i64 x.n], .bool true]) (by simp [results, Try.results24, go_sem, r0, r1]) rfl ⟨rfl, .slice (some ⟨g, 0, none⟩) m cap, ys, ?_, ?_, ?_, HFF.out, ?_, ?_⟩
    · exact setCell_far (setCell_far HMM.out.obj _ (Ne.symm HB2H.out) _) _ (Ne.symm HB2H.out) _
    · have h1 := ownsRow_setCell_other HMM.out.row (a := ⟨b2, 0, none⟩) (fun h => HB2G.out (by simpa [Value.ownBlock] using h.symm)) (.int .i64 x.k)
      exact ownsRow_setCell_other h1 (a := ⟨b2, 1, none⟩) (fun h => HB2G.out (by simpa [Value.ownBlock] using h.symm)) (.int .i64 x.n)
    · exact (HMM.out.perm.cons x).trans (pop_perm HM.out HX.out HY.out)
    · intro g' h; exact h
    · have e1 : ∀ j, (j = hb ∨ j = g) → (j = hb ∨ (Value.slice (some ⟨g, 0, none⟩) xs.length cap).ownBlock = some j) := fun j h => h.imp id (fun h => by rw [h]; rfl)
      refine Fr.setNew (Fr.setNew ?_ _ HLE.out _) _ HLE.out _
      refine ((HFR.out.mono fun j _ => e1 j).trans (hpo.out.2.2.1.mono fun j _ => e1 j)).trans (HMM.out.fr.mono fun j _ h => Or.inr h)

end Go.Proofs.Ytlhgoklojhgfeaa
