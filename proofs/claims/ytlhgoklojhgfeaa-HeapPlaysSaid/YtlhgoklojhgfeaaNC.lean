/- The walk of HeapPeeks: it returns true whatever the items.
   Conditions: none. -/
import Derived.Test.YtlhgoklojhgfeaaQ
namespace Go.Proofs.Ytlhgoklojhgfeaa
open Go.RowKit Go.HeapW Go.HeapP
set_option linter.unusedSimpArgs false
set_option linter.unusedVariables false

/-- append of a row of items to an empty slice: a copy. -/
theorem wpList_append_items {ops : Array Oper} {rest : List Oper} {o : Oper} {a : Act} {Q : Exit → Act → World → Prop} {w : World} (hgd : o.guard = none) (s x : Operand)
    (ho : o.op = .call { callee := .builtin .append, args := #[s, x], argTypes := #[24, 24] }) (hty : o.type = 24) {base base' : Nat} {v : Value} {m : List Im} (hR : IRow w base v m) (B : Nat)
    (hs : a.eval s = .slice (some ⟨B, 0, none⟩) 0 0) (hB : w.heap[B]? = some (.cells #[] 26 (0, 0))) (hBw : base' ≤ B) (hx : a.eval x = v) (hl : m.length ≤ 100000) (hbs : base' ≤ w.heap.size)
    (h : ∀ v' w', IRow w' base' v' m → w.grownBy w' (some B) → wpList Try.prog ops Q rest (a.put o.dst v') w') : wpList Try.prog ops Q (o :: rest) a w := by
  have hrun : ∃ v' w', (Builtin.append_ #[24, 24] 24 #[.slice (some ⟨B, 0, none⟩) 0 0, v]).run Try.prog w = .ok v' w' ∧ IRow w' base' v' m ∧ w.grownBy w' (some B) := by
    obtain ⟨i0, hi0, hz0, hz1, hz2⟩ := info_parts info26
    have hown : w.ownsRow base' 26 2 (.slice (some ⟨B, 0, none⟩) 0 0) 0 [] := ⟨rfl, .inr ⟨B, 0, #[], rfl, hBw, hB, Nat.le_refl _, by unfold maxLen; omega, rfl, rfl⟩⟩
    rcases hR.2 with ⟨rfl, h0⟩ | ⟨g, cap, cur, rfl, _, hg, _⟩
    · have hx : m = [] := List.length_eq_zero_iff.1 h0
      subst hx
      exact ⟨_, w, run_append_owned_none w base' 24 24 26 i0 2 Try.underlying24 hi0 _ 0 [] hown, hown, World.grownBy.refl _ _⟩
    · obtain ⟨v', w', hr, ho, hgr, _⟩ := run_append_own w base' 24 24 26 i0 _ 2 16 Try.underlying24 hi0 hz0 hz1 hz2 rfl (by omega) _ 0 [] hown ⟨g, 0, none⟩ m.length cap (flat pk m) (flat_length pk 2 pk_length m)
        (fun j u hu => hR.cells (g := g) rfl j u hu) (fun u hu => by
          simp only [flat, List.mem_flatMap] at hu
          obtain ⟨x, _, hx⟩ := hu
          simp only [pk, List.mem_cons, List.not_mem_nil, or_false] at hx
          rcases hx with rfl | rfl <;> rfl) (by unfold maxLen; omega) (by omega) hbs
      refine ⟨v', w', hr, ?_, hgr⟩
      simpa [IRow] using ho
  obtain ⟨v', w', hr, h1, h2⟩ := hrun
  refine wpList_plain hgd fun _ hK => ?_
  unfold Oper.wp execOp
  simp only [ho, hty, resolve, invoke, builtin, Sem.run_bind, Sem.run_pure, Result.andThen_ok, List.map_toArray, List.map_cons, List.map_nil, hs, hx, hr]
  exact hK _ _ (h v' w' h1 h2)

/-- Store into a row of items: still a row. -/
theorem irow_key {w : World} {base g cap : Nat} {m : List Im} (h : IRow w base (.slice (some ⟨g, 0, none⟩) m.length cap) m) (i : Nat) (p : Im) (hp : m[i]? = some p) (k : Int) :
    IRow (w.setCell ⟨g, i * 2, none⟩ (.int .i64 k)) base (.slice (some ⟨g, 0, none⟩) m.length cap) (m.set i (k, p.2)) := by
  have h1 := (h.stored (i * 2) (.int .i64 k)).1
  have e : (flat pk m).set (i * 2) (.int .i64 k) = flat pk (m.set i (k, p.2)) := by
    clear h h1
    induction m generalizing i with
    | nil => simp at hp
    | cons y r ih =>
      cases i with
      | zero =>
        simp only [List.getElem?_cons_zero, Option.some.injEq] at hp
        subst hp
        simp [flat, pk]
      | succ i =>
        rw [List.getElem?_cons_succ] at hp
        have := ih i hp
        have e : (i + 1) * 2 = i * 2 + 1 + 1 := by omega
        simp only [flat, List.flatMap_cons, pk, e, List.cons_append, List.nil_append, List.set_cons_succ] at this ⊢
        rw [this]
  rw [e] at h1
  simpa [IRow] using h1

theorem srt_head {σ : Int → Int} {o r : List It} {i : Nat} {x : It} (h : Srt σ o) (hx : o[i]? = some x) (hp : r.Perm (o.drop i)) : IsMin σ r x ∧ (r.erase x).Perm (o.drop (i + 1)) := by
  have hi := lt_of_get hx
  have hd : o.drop i = x :: o.drop (i + 1) := by
    rw [List.drop_eq_getElem_cons hi]
    congr 1
    rw [List.getElem?_eq_getElem hi] at hx
    exact Option.some.inj hx
  rw [hd] at hp
  refine ⟨⟨hp.symm.subset List.mem_cons_self, fun y hy => ?_⟩, ?_⟩
  · rcases List.mem_cons.1 (hp.subset hy) with rfl | hy'
    · exact (swo_bef σ).irrefl _
    · obtain ⟨j, hj, e⟩ := List.getElem_of_mem hy'
      have hj2 : o[i + 1 + j]? = some y := by
        rw [← List.getElem?_drop, List.getElem?_eq_getElem hj, e]
      exact (swo_bef σ).asymm _ _ (srt_get h hx hj2 (by omega))
  · have := hp.erase x
    simpa using this

theorem owns_base {w : World} {base base' : Nat} {e : TypeId} {size : Nat} {v : Value} {n : Nat} {xs : List Value} (h : w.ownsRow base e size v n xs) (hb : base' ≤ base) : w.ownsRow base' e size v n xs := by
  refine ⟨h.1, ?_⟩
  rcases h.2 with hn | ⟨g, cap, cur, rfl, hg, r⟩
  · exact Or.inl hn
  · exact Or.inr ⟨g, cap, cur, rfl, Nat.le_trans hb hg, r⟩

/-- Ahead of the second loop. -/
def PeekA (w wr : World) (hb : Nat) (l : List It) (next : Int) (vh : Value) (n : Nat) (s t c : Value) (tm : List Im) : Prop :=
  ∃ (i : Nat) (m : List Im), c = .int .i64 i ∧ i ≤ n ∧ m.length = n ∧ IRow wr w.heap.size s m ∧ IRow wr w.heap.size t tm ∧ (∀ g, s.ownBlock = some g → t.ownBlock ≠ some g) ∧ Heap wr hb w.heap.size 23 (fun k => k) vh l next ∧ Below w.heap.size w wr
def PeekB (w wr : World) (hb : Nat) (o : List It) (next : Int) (t c : Value) : Prop :=
  ∃ (i : Nat) (r : List It), c = .int .i64 i ∧ i ≤ o.length ∧ r.Perm (o.drop i) ∧ IRow wr w.heap.size t (o.map It.im) ∧ Mine w wr hb w.heap.size 23 (fun k => k) r next

set_option maxHeartbeats 4000000 in
set_option maxRecDepth 100000 in
theorem peeks_walk (a : Option Addr) (cap : Nat) (m : List Im) (w : World) (hI : Its w (.slice a m.length cap) m) (hbig : m.length ≤ 9223372036854775807) :
    Calls Try.prog 10 #[.slice a m.length cap] w fun e w' => e = .returned (.bool true) ∧ Below w.heap.size w w' := by
  have HW := Lib.hid (awake_any w)
  have hmx : (m.length : Int) ≤ 9223372036854775807 := by omega
  have HI := Lib.hid hI
  clear hI hbig
  by_cases hlen : m.length ≤ 300
  · have hl : (m.length : Int) ≤ 300 := by omega
    have hld : decide ((300 : Int) < (m.length : Int)) = false := decide_eq_false (by omega)
    clear hmx
    go_enter Try.func10, Try.ntmps10
    go_wp2_with (first | (go_at_call 11; ((with_reducible refine (HW.out).mono ?_); rintro e w1 ⟨rfl, hb⟩; have HB := Lib.hid hb; clear hb)) | (go_at_call 13; fail))
    refine (pushed_any _ m w1 (HI.out.below HB.out) (by omega)).mono ?_
    rintro e w2 ⟨rfl, vh, hh, _, hg, hb2⟩
    have HH := Lib.hid hh
    have HG := Lib.hid hg
    have HB2 := Lib.hid hb2
    clear hh hg hb2
    go_wp2_with (go_at_call 32; fail)
    refine (sorted_l cmp_byKey HH.out (by rw [numb_length]; omega)).mono ?_
    rintro e w3 ⟨s, o, rfl, hs, hp, hrow, hb3⟩
    have HS := Lib.hid hs
    have HP := Lib.hid hp
    have HROW := Lib.hid hrow
    have HB3 := Lib.hid hb3
    clear hs hp hrow hb3
    go_wp2_with (at_builtin; go_must (refine wpList_append_items rfl (.tmp 25) (.tmp 26) rfl rfl (HROW.out.alloc _) w3.heap.size (base' := w3.heap.size) rfl (alloc_new w3 _) (Nat.le_refl _) rfl ?c1 ?c2 ?_))
    case c1 => rw [List.length_map, HP.out.length_eq, numb_length]; omega
    case c2 => simp
    intro t w4 hrt hgr
    have HRT := Lib.hid hrt
    have HGR := Lib.hid hgr
    clear hrt hgr
    have hom : (o.map It.im).length = m.length := by rw [List.length_map, HP.out.length_eq, numb_length]
    obtain ⟨asl, cs, hse⟩ := irow_shape HROW.out
    rw [hom] at hse
    subst hse
    obtain ⟨atl, ct, hte⟩ := irow_shape HRT.out
    rw [hom] at hte
    subst hte
    have HOM := Lib.hid hom
    have hF4 : Fr (fun j => j = w3.heap.size) w3 w4 := ((Fr.refl _ w3).alloc (.cells #[] 26)).trans ((Fr.of_grown HGR.out).mono fun i _ e => by simpa using e.symm)
    have hb13 : Below w.heap.size w w3 := (HB.out.trans (HB2.out.mono HB.out.size)).trans (HB3.out.mono (by have := HB.out.size; have := HB2.out.size; omega))
    have hA0 : PeekA w w4 w1.heap.size (numb m) m.length vh m.length (.slice asl m.length cs) (.slice atl m.length ct) (.int .i64 0) (o.map It.im) := by
      have hsz : w.heap.size ≤ w1.heap.size := HB.out.size
      have hsz2 : w1.heap.size ≤ w2.heap.size := HB2.out.size
      refine ⟨0, o.map It.im, rfl, Nat.zero_le _, hom, owns_base (hF4.owns HROW.out (fun g hg => ?_)) (by omega), owns_base HRT.out hb13.size, fun g hg hg' => ?_, ?_, ?_⟩
      · have := (HROW.out.lt g hg).2; omega
      · have h1 := (HROW.out.lt g hg).2
        have h2 := (HRT.out.lt g hg').1
        omega
      · refine ((HH.out.below HB3.out).base hsz).keep hF4 ?_ ?_
        · have := (HH.out.below HB3.out).lt; omega
        · intro g hg; have := ((HH.out.below HB3.out).row g hg).2; omega
      · exact hb13.trans (hF4.below hb13.size (fun k hk hs => by have := hb13.size; omega))
    have HA0 := Lib.hid hA0
    clear hA0 hF4 hb13 hom
    go_wp2_with fail
    go_loopw [30] (fun c wr => PeekA w wr w1.heap.size (numb m) m.length vh m.length (.slice asl m.length cs) (.slice atl m.length ct) c (o.map It.im)) (fun c _ => m.length - (intOf c).toNat)
    case atStart => exact HA0.out
    case round =>
      obtain ⟨i, sm, rfl, hi, hsl, hrs, hrt, hst, hhp, hbw⟩ := hrel
      have HRS := Lib.hid hrs
      have HRT2 := Lib.hid hrt
      have HST := Lib.hid hst
      have HHP := Lib.hid hhp
      have HBW := Lib.hid hbw
      have HSL := Lib.hid hsl
      clear hrs hrt hst hhp hbw hsl
      by_cases hlt : i < m.length
      · have hrs := HRS.out
        rcases hrs.2 with ⟨hv, h0⟩ | ⟨g, cap', cur, hv, _, hg, _⟩
        · have := HSL.out; omega
        have hv1 : asl = some ⟨g, 0, none⟩ := by
          simp only [Value.slice.injEq] at hv
          exact hv.1
        subst hv1
        obtain ⟨p, hp⟩ : ∃ p, sm[i]? = some p := ⟨_, List.getElem?_eq_getElem (by have := HSL.out; omega)⟩
        have hsl := HSL.out
        have hrs2 : IRow wr w.heap.size (.slice (some ⟨g, 0, none⟩) sm.length cs) sm := by rw [hsl]; exact hrs
        have c0 : wr.cell? ⟨g, i * 2, none⟩ = some (.int .i64 p.1) := by
          rw [hrs2.cellAt (i * 2) (by omega)]
          exact (flat_get pk 2 pk_length sm i 0 p (by omega) hp).trans rfl
        have z0 : wr.frozen? ⟨g, i * 2, none⟩ = false := hrs2.frozenAt _
        have hil : (i : Int) < m.length := by omega
        have hin0 : (0 : Int) ≤ i := by omega
        have HP2 := Lib.hid hp
        have HRS2 := Lib.hid hrs2
        clear hrs hrs2 hv hg hp hsl hi
        go_wp2_with fail
        go_roundw
        case rel =>
          have hF : Fr (fun j => j = g) wr (wr.setCell ⟨g, i * 2, none⟩ (.int .i64 (wrap64 (p.1 + 1)))) := Fr.set1 (Fr.refl _ wr) g _ (by rfl) _
          have hgs : w.heap.size ≤ g ∧ g < wr.heap.size := HRS2.out.lt g rfl
          have hrk := irow_key HRS2.out i p HP2.out (wrap64 (p.1 + 1))
          have hsl := HSL.out
          refine ⟨i + 1, sm.set i (wrap64 (p.1 + 1), p.2), by go_num, by omega, by rw [List.length_set]; exact hsl, ?_, hF.owns HRT2.out (fun j hj e => HST.out g rfl (e ▸ hj)), HST.out, HHP.out.keep hF (fun e => ?_) (fun j hj e => ?_), ?_⟩
          · simp only [IRow, List.length_set, hsl] at hrk ⊢
            exact hrk
          · exact HHP.out.apart HRS2.out g rfl (Or.inl e.symm)
          · exact HHP.out.apart HRS2.out g rfl (Or.inr (e ▸ hj))
          · exact HBW.out.trans (hF.below HBW.out.size (fun k hk e => by omega))
        case measure => simp [intOf]; omega
      · have he : i = m.length := by omega
        subst he
        clear hlt hi
        go_wp2_with fail
        have hol : o.length = m.length := by have := HOM.out; rwa [List.length_map] at this
        have HOL := Lib.hid hol
        clear hol
        go_loopw [44] (fun c wr => PeekB w wr w1.heap.size o (m.length : Int) (.slice atl m.length ct) c) (fun c _ => m.length - (intOf c).toNat)
        case atStart => exact ⟨0, numb m, rfl, Nat.zero_le _, HP.out.symm, HRT2.out, vh, HHP.out, HB.out.size, fun g hg => (HHP.out.row g hg).1, HBW.out⟩
        case round =>
          obtain ⟨i, r, rfl, hi, hr, hrt, vr, hhp, hhb, hgb, hbw⟩ := hrel
          have HR := Lib.hid hr
          have HRT3 := Lib.hid hrt
          have HH3 := Lib.hid hhp
          have HHB := Lib.hid hhb
          have HGB := Lib.hid hgb
          have HBW3 := Lib.hid hbw
          have hi' : i ≤ m.length := by have := HOL.out; omega
          clear hr hrt hhp hhb hgb hbw hi
          by_cases hlt : i < m.length
          · obtain ⟨x, hx⟩ : ∃ x, o[i]? = some x := ⟨_, List.getElem?_eq_getElem (by have := HOL.out; omega)⟩
            obtain ⟨hmin, hrest⟩ := srt_head HS.out hx HR.out
            have hrl : r.length = m.length - i := by rw [HR.out.length_eq, List.length_drop, HOL.out]
            obtain ⟨b, off, hb0, c0, c1⟩ := its_cells HRT3.out.its (Below.refl _ _) (show (o.map It.im)[i]? = some x.im by simp [hx])
            subst hb0
            simp only [It.im] at c0 c1
            have hil : (i : Int) < (m.length : Int) := by omega
            have hin0 : (0 : Int) ≤ (i : Int) := by omega
            have hbl' : b < wr.heap.size := World.block_lt_of_cell? wr _ c0
            have HX := Lib.hid hx
            have HMIN := Lib.hid hmin
            have HREST := Lib.hid hrest
            have HRL := Lib.hid hrl
            have HA := Lib.hid (HH3.out.below ((Below.refl _ wr).alloc (Nat.le_refl _) (.cells #[.int .i64 x.k, .int .i64 x.n] 26)))
            obtain ⟨q, hq⟩ : ∃ q, r.length = q + 1 := ⟨r.length - 1, by omega⟩
            have hq2 : (r.erase x).length = q := by rw [List.length_erase_of_mem hmin.1, hq]; omega
            have hqb : (q : Int) ≤ 300 := by omega
            have HQ := Lib.hid hq
            have HQ2 := Lib.hid hq2
            have hA8 := Lib.hid (alloc_new wr (.cells #[.int .i64 x.k, .int .i64 x.n] 26))
            clear hx hmin hrest hrl hi' hq hq2
            go_wp2_with fail
            -- the length ahead
            refine (len_l HA.out).mono ?_
            rintro e w5 ⟨he, hw⟩
            rw [HQ.out] at he
            subst he
            subst hw
            go_wp2_with fail
            -- Peek
            obtain ⟨x1, hx1, hpe⟩ := peek_l HA.out (by rw [HQ.out]; omega)
            have e1 : x1 = x := IsMin.unique HA.out.2.1 hx1 HMIN.out
            subst e1
            refine (hpe).mono ?_
            rintro e w6 ⟨rfl, hb6⟩
            have HB6 := Lib.hid hb6
            clear hpe hb6 hx1
            have HA8 := Lib.hid ((Fr.of_below (S := fun _ => False) HB6.out).keep hA8.out (fun h => h))
            have HA10 := Lib.hid (alloc_new w6 (.cells #[.int .i64 x1.k, .int .i64 x1.n] 26))
            have HH6 := Lib.hid ((HA.out.below HB6.out).below ((Below.refl _ w6).alloc (Nat.le_refl _) (.cells #[.int .i64 x1.k, .int .i64 x1.n] 26)))
            go_wp2_with fail
            -- the length between
            refine (len_l HH6.out).mono ?_
            rintro e w7 ⟨he, hw⟩
            rw [HQ.out] at he
            subst he
            subst hw
            go_wp2_with fail
            -- Pop
            obtain ⟨x2, hx2, hpo⟩ := pop_l cmp_byKey HH6.out (by rw [HQ.out]; omega) (by rw [HQ.out]; omega)
            have e2 : x2 = x1 := IsMin.unique HH6.out.2.1 hx2 HMIN.out
            subst e2
            refine (hpo).mono ?_
            rintro e w8 ⟨rfl, v8, hh8, hown8, hfr8⟩
            have HH8 := Lib.hid hh8
            have HOWN8 := Lib.hid hown8
            have HFR8 := Lib.hid hfr8
            clear hpo hh8 hown8 hfr8 hx2
            have hA8' := HFR8.out.keep (alloc_keep HA8.out _) (HH6.out.off (alloc_keep HA8.out _) (by decide) (by decide))
            have hA10' := HFR8.out.keep HA10.out (HH6.out.off HA10.out (by decide) (by decide))
            have k0 : w8.cell? ⟨wr.heap.size, 0, none⟩ = some (.int .i64 x2.k) := (cell_of_blk hA8' 0).trans rfl
            have k1 : w8.cell? ⟨wr.heap.size, 1, none⟩ = some (.int .i64 x2.n) := (cell_of_blk hA8' 1).trans rfl
            have j0 : w8.cell? ⟨w6.heap.size, 0, none⟩ = some (.int .i64 x2.k) := (cell_of_blk hA10' 0).trans rfl
            have j1 : w8.cell? ⟨w6.heap.size, 1, none⟩ = some (.int .i64 x2.n) := (cell_of_blk hA10' 1).trans rfl
            have l8 := lt_of_block hA8'
            have l10 := lt_of_block hA10'
            clear hA8' hA10'
            have HH9 := Lib.hid (HH8.out.below ((Below.refl _ w8).alloc (Nat.le_refl _) (.cells #[.int .i64 x2.k, .int .i64 x2.n] 26)))
            go_wp2_with fail
            -- the length behind
            refine (len_l HH9.out).mono ?_
            rintro e w9 ⟨he, hw⟩
            rw [HQ2.out] at he
            subst he
            subst hw
            go_wp2_with fail
            go_roundw
            case rel =>
              have row6 := (Fr.of_below (S := fun _ => False) HB6.out).owns (HRT3.out.alloc (.cells #[.int .i64 x2.k, .int .i64 x2.n] 26)) (fun _ _ h => h)
              have row6' : IRow _ w.heap.size _ (o.map It.im) := row6.alloc (.cells #[.int .i64 x2.k, .int .i64 x2.n] 26)
              have row8 := HFR8.out.owns row6' (HH6.out.apart row6')
              have hb6 := (((HBW3.out.alloc HBW3.out.size (.cells #[.int .i64 x2.k, .int .i64 x2.n] 26)).trans (HB6.out.mono (by have := HBW3.out.size; simp; omega))))
              have hb6' := hb6.alloc hb6.size (.cells #[.int .i64 x2.k, .int .i64 x2.n] 26)
              obtain ⟨vz, hz1, hz2, hz3, hz4⟩ := Mine.push HH6.out HHB.out HGB.out hb6' HH8.out HOWN8.out HFR8.out
              exact ⟨i + 1, r.erase x2, by go_num, by have := HOL.out; omega, HREST.out, row8.alloc _, vz, hz1.below ((Below.refl _ w8).alloc (Nat.le_refl _) _), hz2, hz3, hz4.alloc hz4.size _⟩
            case measure => simp [intOf]; omega
          · have he : i = m.length := by omega
            subst he
            clear hlt hi'
            have hr0 : r = [] := by
              have h1 := HR.out
              rw [List.drop_eq_nil_iff.2 (by rw [HOL.out]; exact Nat.le_refl _)] at h1
              exact h1.eq_nil
            subst hr0
            go_wp2_with fail
            refine (peek_l0 HH3.out).mono ?_
            rintro e w6 ⟨rfl, hb6⟩
            have HB6 := Lib.hid hb6
            have HH6 := Lib.hid ((HH3.out.below hb6).below ((Below.refl _ w6).alloc (Nat.le_refl _) (.cells #[.int .i64 0, .int .i64 0] 26)))
            clear hb6
            go_wp2_with fail
            refine (len_l HH6.out).mono ?_
            rintro e w7 ⟨he, hw⟩
            subst he
            subst hw
            go_wp2_with fail
            go_ret
            have hb := HBW3.out.trans (HB6.out.mono HBW3.out.size)
            exact ⟨rfl, hb.alloc hb.size _⟩
  · have hl : (300 : Int) < (m.length : Int) := by omega
    go_enter Try.func10, Try.ntmps10
    go_wp2_with (go_at_call 11; ((with_reducible refine (HW.out).mono ?_); rintro e w1 ⟨rfl, hb⟩; have HB := Lib.hid hb; clear hb))
    go_ret
    exact ⟨rfl, HB.out⟩

end Go.Proofs.Ytlhgoklojhgfeaa
