/- The contract of the reference's Sorted: the same list as the heap's order.
   Conditions: at most 1,000 items. -/
import Derived.Test.YtlhgoklojhgfeaaS
namespace Go.Proofs.Ytlhgoklojhgfeaa
open Go.RowKit Go.HeapW Go.HeapP
set_option linter.unusedSimpArgs false
set_option linter.unusedVariables false

theorem erase_at {r : List It} (h : r.Nodup) : ∀ {j : Nat} {x : It}, r[j]? = some x → r.erase x = r.eraseIdx j := by
  induction r with
  | nil => intro j x hx; simp at hx
  | cons a t ih =>
    intro j x hx
    cases j with
    | zero =>
      simp only [List.getElem?_cons_zero, Option.some.injEq] at hx
      subst hx
      simp
    | succ j =>
      rw [List.getElem?_cons_succ] at hx
      have hne : a ≠ x := fun e => (List.nodup_cons.1 h).1 (e ▸ List.mem_of_getElem? hx)
      rw [List.erase_cons_tail (by simpa using hne), List.eraseIdx_cons_succ, ih (List.nodup_cons.1 h).2 hx]
theorem map_eraseIdx' {α β : Type} (f : α → β) : ∀ (r : List α) (j : Nat), (r.map f).eraseIdx j = (r.eraseIdx j).map f := by
  intro r
  induction r with
  | nil => intro j; rfl
  | cons a t ih =>
    intro j
    cases j with
    | zero => rfl
    | succ j => simp [ih]

theorem first_min {r : List It} {nb a : Int} (hN : Num r nb) (h : FirstOK (r.map It.im) a) (hr : r ≠ []) : ∃ (j : Nat) (x : It), a = j ∧ r[j]? = some x ∧ IsMin (fun k => k) r x ∧ r.erase x = r.eraseIdx j := by
  rcases h with ⟨h, _⟩ | ⟨j, p, ha, hp, h1, h2⟩
  · exact absurd (List.map_eq_nil_iff.1 h) hr
  · rw [List.getElem?_map] at hp
    obtain ⟨x, hx, rfl⟩ := Option.map_eq_some_iff.1 hp
    refine ⟨j, x, ha, hx, ⟨List.mem_of_getElem? hx, fun y hy => ?_⟩, erase_at hN.nodup hx⟩
    obtain ⟨i, hi⟩ := List.getElem?_of_mem hy
    have hi' : (r.map It.im)[i]? = some y.im := by rw [List.getElem?_map, hi]; rfl
    have k1 := h1 i _ hi'
    simp only [It.im] at k1
    rw [bef_not]
    rcases Nat.lt_or_ge i j with hij | hij
    · have k2 := h2 i _ hij hi'
      simp only [It.im] at k2
      omega
    · rcases Nat.eq_or_lt_of_le hij with e | hlt
      · subst e
        rw [hx] at hi
        cases hi
        omega
      · have k3 : x.s < y.s := by
          have hl := lt_of_get hi
          have hjl := lt_of_get hx
          have := List.pairwise_iff_getElem.1 hN.up j i hjl hl hlt
          rw [List.getElem?_eq_getElem hjl] at hx
          rw [List.getElem?_eq_getElem hl] at hi
          cases hx
          cases hi
          exact this
        omega

/-- The block that a slice lies in. -/
def At (v : Value) (b : Nat) : Prop := ∃ a n c, v = .slice (some a) n c ∧ a.block = b
theorem at_own {v : Value} {g : Nat} (h : v.ownBlock = some g) : At v g := by
  unfold Value.ownBlock at h
  split at h
  · rename_i b n c
    simp only [Option.some.injEq] at h
    exact ⟨_, _, _, rfl, h⟩
  · cases h
theorem Its.keep {S : Nat → Prop} {w w' : World} {v : Value} {m : List Im} (h : Its w v m) (hf : Fr S w w') (hs : ∀ g, At v g → ¬ S g) : Its w' v m := by
  obtain ⟨a, cap, hv, h⟩ := h
  refine ⟨a, cap, hv, h.imp id ?_⟩
  rintro ⟨b, off, ha, hlt, hc⟩
  have hb : ¬ S b := hs b ⟨⟨b, off, none⟩, _, _, by rw [hv, ha], rfl⟩
  refine ⟨b, off, ha, Nat.lt_of_lt_of_le hlt hf.size, fun i p hp => ?_⟩
  rw [hf.cell (p := ⟨b, off + i * 2, none⟩) hlt hb, hf.cell (p := ⟨b, off + i * 2 + 1, none⟩) hlt hb]
  exact hc i p hp
theorem irow_at {w : World} {base : Nat} {v : Value} {m : List Im} (h : IRow w base v m) {g : Nat} (hg : At v g) : base ≤ g ∧ g < w.heap.size := by
  obtain ⟨a, n, c, rfl, rfl⟩ := hg
  rcases h.2 with ⟨h1, _⟩ | ⟨g', cap, cur, h1, _⟩
  · cases h1
  · cases h1
    exact h.lt g' rfl

def RSortRel (w : World) (l : List It) (gk : Nat) (s t : Value) (wr : World) : Prop :=
  ∃ (o r : List It), r.length ≤ gk ∧ Popd (fun k => k) l o r ∧ r.Sublist l ∧ Its wr s (r.map It.im) ∧ IRow wr w.heap.size t (o.map It.im) ∧ (∀ g, t.ownBlock = some g → ¬ At s g) ∧ Below w.heap.size w wr

set_option maxHeartbeats 4000000 in
theorem rsorted_any (v : Value) (l : List It) (nb : Int) (w : World) (hN : Num l nb) (hI : Its w v (l.map It.im)) (hl : l.length ≤ 1000) :
    Calls Try.prog 33 #[v] w fun e w' => ∃ s o, e = .returned s ∧ Srt (fun k => k) o ∧ o.Perm l ∧ IRow w' w.heap.size s (o.map It.im) ∧ Below w.heap.size w w' := by
  obtain ⟨i0, hi0, hz0, hz1, hz2⟩ := info_parts info26
  have H0 : RSortRel w l l.length v (.slice none 0 0) w := ⟨[], l, Nat.le_refl _, Popd.start, List.Sublist.refl _, hI, irow_nil _ _, fun g h => by simp [Value.ownBlock] at h, Below.refl _ _⟩
  have HN := Lib.hid hN
  have HL := Lib.hid hl
  clear hI hN hl
  go_enter Try.func33, Try.ntmps33
  go_wp2_with fail
  go_loopg [0, 3] l.length (fun gk s t wr => RSortRel w l gk s t wr)
  case atStart => exact H0
  case round =>
    clear H0
    obtain ⟨o, r, hg, hp, hsub, hs, hrow, hap, hbe⟩ := hrel
    have hlen : o.length + r.length = l.length := by rw [← List.length_append]; exact hp.perm.length_eq
    obtain ⟨ad, cap, rfl, _⟩ := id hs
    have hml : (r.map It.im).length = r.length := List.length_map _
    rw [hml] at hs hap ⊢
    have HG := Lib.hid hg
    have HP := Lib.hid hp
    have HSUB := Lib.hid hsub
    have HS := Lib.hid hs
    have HROW := Lib.hid hrow
    have HAP := Lib.hid hap
    have HBE := Lib.hid hbe
    have HLEN := Lib.hid hlen
    clear hg hp hsub hs hrow hap hbe hlen hml
    by_cases hr : r = []
    · subst hr
      go_wp2_with fail
      go_ret
      have hpp := HP.out.perm
      rw [List.append_nil] at hpp
      exact ⟨_, o, rfl, HP.out.srt, hpp, HROW.out, HBE.out⟩
    · have hrl : (0 : Int) < (r.length : Int) := by have := List.length_pos_iff.2 hr; omega
      have HNE := Lib.hid hr
      have HF := Lib.hid (first_any _ _ wr HS.out (by rw [List.length_map]; have := HLEN.out; have := HL.out; omega))
      clear hr
      go_wp2_with fail
      refine (HF.out).mono ?_
      rintro e w2 ⟨⟨a, rfl, hf⟩, hb2⟩
      obtain ⟨j, x, rfl, hx, hmin, her⟩ := first_min (HN.out.sub HSUB.out) hf HNE.out
      have HB2 := Lib.hid hb2
      have HX := Lib.hid hx
      have HMIN := Lib.hid hmin
      have HER := Lib.hid her
      have hjl := lt_of_get hx
      obtain ⟨b, off, hb0, c0, c1⟩ := its_cells HS.out hb2 (show (r.map It.im)[j]? = some x.im by simp [hx])
      subst hb0
      simp only [It.im] at c0 c1
      have hjl' : (j : Int) < (r.length : Int) := by omega
      have hj0 : (0 : Int) ≤ (j : Int) := by omega
      have HRW2 := Lib.hid ((Fr.of_below (S := fun _ => False) hb2).owns HROW.out (fun _ _ h => h))
      have HJ := Lib.hid hjl
      clear hf hb2 hx hmin her hjl
      go_wp2_with (at_builtin; go_must (refine wpList_append_lies _ rfl (.tmp 10) (.tmp 15) 24 rfl w.heap.size 26 i0 _ 2 16 Try.underlying24 hi0 hz0 hz1 hz2 rfl (by omega) _ (o.map It.im).length (flat pk (o.map It.im)) rfl (HRW2.out.alloc _) ⟨w2.heap.size, 0, none⟩ 1 1 (pk (x.k, x.n)) rfl rfl ?c1 ?c2 (by omega) ?c3 ?c4 ?c5 (w2.heap.size + 1) ?c6 ?_))
      case c1 => exact World.news_of_block (cs := #[.int .i64 x.k, .int .i64 x.n]) (t := 26) (fr := (0, 0)) (alloc_new _ _)
      case c2 => simp [Value.oneCell', pk]
      case c3 => unfold maxLen; have := HL.out; have := HLEN.out; simp; omega
      case c4 => have := HL.out; have := HLEN.out; simp; omega
      case c5 => have := HBE.out.size; have := HB2.out.size; simp; omega
      case c6 => simp
      intro g cap' w3 hro hgr hat hlt2
      have hfr3 : Fr (fun j => Value.ownBlock _ = some j) w2 w3 := ((Fr.refl _ w2).alloc _).trans (Fr.of_grown hgr)
      have hs3 := (HS.out.below HB2.out).keep hfr3 (fun g' h' h'' => HAP.out g' h'' h')
      have HRO := Lib.hid hro
      have HFR3 := Lib.hid hfr3
      have HB3 := Lib.hid ((((HBE.out.trans (HB2.out.mono HBE.out.size)).alloc (by have := HBE.out.size; have := HB2.out.size; omega) (.cells #[.int .i64 x.k, .int .i64 x.n] 26))).grown hgr (by have := HBE.out.size; have := HB2.out.size; simp; omega) (fun k hk => (HRW2.out.lt k hk).1))
      have HW := Lib.hid (without_any _ _ j w3 hs3 (by rw [List.length_map]; have := HLEN.out; have := HL.out; omega) (by have := HLEN.out; have := HL.out; have := HJ.out; omega))
      clear hro hgr hat hlt2 hfr3 hs3
      go_wp2_with fail
      refine (HW.out).mono ?_
      rintro e w4 ⟨⟨s4, rfl, hr4⟩, hb4⟩
      have HR4 := Lib.hid hr4
      have HB4 := Lib.hid hb4
      clear hr4 hb4
      go_wp2_with fail
      go_roundg (r.length - 1)
      case rel =>
        have hro4 := (Fr.of_below (S := fun _ => False) HB4.out).owns HRO.out (fun _ _ h => h)
        have hel : (r.erase x).length = r.length - 1 := List.length_erase_of_mem HMIN.out.1
        refine ⟨o ++ [x], r.erase x, by omega, HP.out.step (HN.out.sub HSUB.out) HMIN.out, List.erase_sublist.trans HSUB.out, ?_, ?_, ?_, HB3.out.trans (HB4.out.mono (by have := HB3.out.size; omega))⟩
        · have := HR4.out.its
          rw [map_eraseIdx', ← HER.out] at this
          exact this
        · have e : (o ++ [x]).map It.im = o.map It.im ++ [(x.k, x.n)] := by simp [It.im]
          rw [e]
          simp only [IRow, flat_snoc, List.length_append, List.length_singleton, List.length_map]
          exact hro4
        · intro g' h' h''
          have h1 := (irow_at HR4.out h'').1
          have h2 := (HRO.out.lt g' h').2
          omega
      case measure => have := HG.out; omega

end Go.Proofs.Ytlhgoklojhgfeaa
