/- The contract of Remove: those that match go, the others stay in the order of pushing.
   Conditions: at most 1,000 items; the predicate writes nothing that was there. -/
import Derived.Test.YtlhgoklojhgfeaaNC
namespace Go.Proofs.Ytlhgoklojhgfeaa
open Go.RowKit Go.HeapW Go.HeapP
set_option linter.unusedSimpArgs false
set_option linter.unusedVariables false

abbrev clo (g kb : Nat) : Value := .func (.func g) #[] #[.pointer (some ⟨kb, 0, none⟩)]
theorem eq56_clo (g kb : Nat) (w : World) : Sem.run Try.prog (binOp .eql 56 (.func (.func g) #[] #[.pointer (some ⟨kb, 0, none⟩)]) .nilFunc) w = .ok (.bool false) w := by kernel_rfl
theorem eq56_nil (w : World) : Sem.run Try.prog (binOp .eql 56 .nilFunc .nilFunc) w = .ok (.bool true) w := by kernel_rfl

theorem remove_nilh (m : Value) (w : World) : Calls Try.prog 29 #[.pointer none, m] w fun e w' => e = .returned (.int .i64 0) ∧ w = w' := by
  go_enter Try.func29, Try.ntmps29
  go_wp2
  go_ret
  exact ⟨rfl, rfl⟩
theorem remove_nilf (a : Addr) (w : World) : Calls Try.prog 29 #[.pointer (some a), .nilFunc] w fun e w' => e = .returned (.int .i64 0) ∧ w = w' := by
  have he := eq56_nil
  go_enter Try.func29, Try.ntmps29
  go_wp2
  go_ret
  exact ⟨rfl, rfl⟩

/-- What is kept. -/
def kept (M : Int → Int → Bool) (l : List It) : List It := l.filter fun x => !M x.k x.n
theorem kept_le (M : Int → Int → Bool) (l : List It) : (kept M l).length ≤ l.length := List.length_filter_le _ _

/-- The closure g over the block kb tells M, in every world that keeps what was there. -/
def Mat (w : World) (g kb : Nat) (M : Int → Int → Bool) : Prop :=
  (∀ (args : Array Value) (w : World), Sem.run Try.prog (callFunc g args) w = .ok (.enter g args) w) ∧
  ∀ (k n : Int) (wr : World), Below w.heap.size w wr → Calls Try.prog g #[.agg #[.int .i64 k, .int .i64 n], .pointer (some ⟨kb, 0, none⟩)] wr fun e w' => e = .returned (.bool (M k n)) ∧ Below wr.heap.size wr w'

def RemA (w : World) (M : Int → Int → Bool) (xs : List It) (s c : Value) (wr : World) : Prop :=
  ∃ i : Nat, c = .int .i64 i ∧ i ≤ xs.length ∧ HRow wr w.heap.size s (kept M (xs.take i)) ∧ Below w.heap.size w wr
def RemB (w : World) (hb base f : Nat) (σ : Int → Int) (v vr : Value) (next : Int) (rs : List It) (c : Value) (wr : World) : Prop :=
  ∃ (j : Nat) (ys : List It), c = .int .i64 ((j : Int) - 1) ∧ j ≤ 1000 ∧ HObj wr hb (fv f) vr next ∧ HRow wr w.heap.size vr ys ∧ ys.Perm rs ∧ From (bef σ) ys j ∧ Fr (foot hb v) w wr

theorem kept_perm {M : Int → Int → Bool} {xs l : List It} (h : xs.Perm l) : (kept M xs).Perm (kept M l) := h.filter _
theorem kept_sub (M : Int → Int → Bool) (l : List It) : (kept M l).Sublist l := List.filter_sublist
theorem kept_yes {M : Int → Int → Bool} {xs : List It} {x : It} (h : M x.k x.n = true) : kept M (xs ++ [x]) = kept M xs := by simp [kept, List.filter_append, h]
theorem kept_no {M : Int → Int → Bool} {xs : List It} {x : It} (h : M x.k x.n = false) : kept M (xs ++ [x]) = kept M xs ++ [x] := by simp [kept, List.filter_append, h]

set_option maxHeartbeats 4000000 in
theorem remove_l {w : World} {hb base f g kb : Nat} {σ : Int → Int} (hc : Cmp f σ) {v : Value} {l : List It} {next : Int} {M : Int → Int → Bool} (h : Heap w hb base f σ v l next) (hl : l.length ≤ 1000) (hbs : base ≤ w.heap.size) (hm : Mat w g kb M) :
    Calls Try.prog 29 #[.pointer (some ⟨hb, 0, none⟩), clo g kb] w fun e w' => e = .returned (.int .i64 ((l.length : Int) - ((kept M l).length : Int))) ∧ ∃ v', Heap w' hb base f σ v' (kept M l) next ∧ Own w v v' ∧ Fr (foot hb v) w w' := by
  obtain ⟨i0, hi0, hz0, hz1, hz2⟩ := info_parts info67
  have h56 := eq56_clo g kb
  obtain ⟨hO, hN, xs, hR, hF, hP⟩ := h
  obtain ⟨a, cap, rfl⟩ := row_shape hR
  have hxl : xs.length ≤ 1000 := by rw [hP.length_eq]; exact hl
  have h1 : w.cell? ⟨hb, 1, none⟩ = some (.slice a xs.length cap) := (cell_of_blk hO 1).trans rfl
  have hbl : (xs.length : Int) ≤ 1000 := by omega
  have HC := Lib.hid hc
  have HM := Lib.hid hm.2
  have hcf := hm.1
  have HO := Lib.hid hO
  have HR := Lib.hid hR
  have HN := Lib.hid hN
  have HF := Lib.hid hF
  have HP := Lib.hid hP
  have HBS := Lib.hid hbs
  clear hc hm hO hR hN hF hP hl hxl hbs
  go_enter Try.func29, Try.ntmps29
  go_wp2_with fail
  go_loopw [5, 21] (fun s c wr => RemA w M xs s c wr) (fun _ c _ => xs.length - (intOf c).toNat)
  case atStart => exact ⟨0, rfl, Nat.zero_le _, World.ownsRow_nil _ _ _ _, Below.refl _ _⟩
  case round =>
    obtain ⟨i, rfl, hi, hrow, hbe⟩ := hrel
    have HROW := Lib.hid hrow
    have HBE := Lib.hid hbe
    clear hrow hbe h1
    by_cases hlt : i < xs.length
    · obtain ⟨x, hx⟩ : ∃ x, xs[i]? = some x := ⟨_, List.getElem?_eq_getElem hlt⟩
      obtain ⟨gr, cap', hv, _, hgl, _⟩ := row_at HR.out (by omega)
      have hv1 : a = some ⟨gr, 0, none⟩ := by simp only [Value.slice.injEq] at hv; exact hv.1
      subst hv1
      obtain ⟨c0, c1, c2⟩ := row_cells HR.out hx
      rw [← HBE.out.cell (p := ⟨gr, i * 3, none⟩) hgl] at c0
      rw [← HBE.out.cell (p := ⟨gr, i * 3 + 1, none⟩) hgl] at c1
      rw [← HBE.out.cell (p := ⟨gr, i * 3 + 2, none⟩) hgl] at c2
      have hil : (i : Int) < xs.length := by omega
      have hin0 : (0 : Int) ≤ i := by omega
      have hgl' : gr < wr.heap.size := Nat.lt_of_lt_of_le hgl HBE.out.size
      have HX := Lib.hid hx
      have hA := HBE.out.alloc HBE.out.size (.cells #[.int .i64 x.k, .int .i64 x.n, .int .i64 x.s] 67)
      have HMC := Lib.hid (HM.out x.k x.n _ hA)
      have HA := Lib.hid hA
      have hk8 := Lib.hid (alloc_new wr (.cells #[.int .i64 x.k, .int .i64 x.n, .int .i64 x.s] 67))
      have hml : (kept M (xs.take i)).length ≤ i := by
        have := kept_le M (xs.take i)
        rw [List.length_take] at this
        omega
      have HML := Lib.hid hml
      clear hx hv hi hgl hA hml
      cases hMx : M x.k x.n with
      | true =>
        have hsn := kept_yes (xs := xs.take i) hMx
        rw [← take_snoc' HX.out] at hsn
        have HMC := HMC.out
        rw [hMx] at HMC
        have HMC := Lib.hid HMC
        have HSN := Lib.hid hsn
        clear hsn hMx
        go_wp2_with fail
        refine (HMC.out).mono ?_
        rintro e w2 ⟨rfl, hb2⟩
        have HB2 := Lib.hid hb2
        clear hb2
        go_wp2_with fail
        go_roundw
        case rel =>
          refine ⟨i + 1, by go_num, by omega, ?_, HA.out.trans (HB2.out.mono HA.out.size)⟩
          rw [HSN.out]
          exact (Fr.of_below (S := fun _ => False) HB2.out).owns (HROW.out.alloc _) (fun _ _ h => h)
        case measure => simp [intOf]; omega
      | false =>
        have hsn := kept_no (xs := xs.take i) hMx
        rw [← take_snoc' HX.out] at hsn
        have HMC := HMC.out
        rw [hMx] at HMC
        have HMC := Lib.hid HMC
        have HSN := Lib.hid hsn
        clear hsn hMx
        go_wp2_with fail
        refine (HMC.out).mono ?_
        rintro e w2 ⟨rfl, hb2⟩
        have HK8 := (Fr.of_below (S := fun _ => False) hb2).keep hk8.out (fun h => h)
        have k0 : w2.cell? ⟨wr.heap.size, 0, none⟩ = some (.int .i64 x.k) := (cell_of_blk HK8 0).trans rfl
        have k1 : w2.cell? ⟨wr.heap.size, 1, none⟩ = some (.int .i64 x.n) := (cell_of_blk HK8 1).trans rfl
        have k2 : w2.cell? ⟨wr.heap.size, 2, none⟩ = some (.int .i64 x.s) := (cell_of_blk HK8 2).trans rfl
        have HR2 := Lib.hid ((Fr.of_below (S := fun _ => False) hb2).owns (HROW.out.alloc (.cells #[.int .i64 x.k, .int .i64 x.n, .int .i64 x.s] 67)) (fun _ _ h => h))
        have HB2 := Lib.hid hb2
        clear hb2 HK8
        go_wp2_with (at_builtin; go_must (refine wpList_append_lies _ rfl (.tmp 30) (.tmp 32) 63 rfl w.heap.size 67 i0 _ 3 24 Try.underlying63 hi0 hz0 hz1 hz2 rfl (by omega) _ (kept M (xs.take i)).length (fl (kept M (xs.take i))) rfl (HR2.out.alloc _) ⟨w2.heap.size, 0, none⟩ 1 1 x.cells rfl rfl ?c1 ?c2 (by omega) ?c3 ?c4 ?c5 (w2.heap.size + 1) ?c6 ?_))
        case c1 => exact World.news_of_block (cs := #[.int .i64 x.k, .int .i64 x.n, .int .i64 x.s]) (t := 67) (fr := (0, 0)) (alloc_new _ _)
        case c2 => simp [Value.oneCell', It.cells]
        case c3 => unfold maxLen; have := HML.out; omega
        case c4 => have := HML.out; omega
        case c5 => have := HA.out.size; have := HB2.out.size; simp; omega
        case c6 => simp
        intro gg cc w3 hro hgr hat hlt3
        have HRO := Lib.hid hro
        have HGR := Lib.hid hgr
        clear hro hgr hat hlt3
        go_wp2_with fail
        go_roundw
        case rel =>
          have hb3 := HA.out.trans (HB2.out.mono HA.out.size)
          refine ⟨i + 1, by go_num, by omega, ?_, (hb3.alloc hb3.size _).grown HGR.out (by have := hb3.size; simp; omega) (fun k hk => (HR2.out.lt k hk).1)⟩
          rw [HSN.out]
          have hro := HRO.out
          simp only [HRow, fl, flat_snoc, List.length_append, List.length_singleton]
          exact hro
        case measure => simp [intOf]; omega
    · have he : i = xs.length := by omega
      subst he
      clear hlt hi
      have hrk := HROW.out
      rw [List.take_length] at hrk
      obtain ⟨ar, cr, hvr⟩ := row_shape hrk
      subst hvr
      have hOr := (Fr.of_below (S := fun _ => False) HBE.out).keep HO.out (fun h => h)
      have h1 : wr.cell? ⟨hb, 1, none⟩ = some (.slice a xs.length cap) := (cell_of_blk hOr 1).trans rfl
      have z1 : wr.frozen? ⟨hb, 1, none⟩ = false := free_of_blk hOr 1
      have hO2 := setCell_blk hOr 1 (.slice ar (kept M xs).length cr)
      have hR2 : HRow (wr.setCell ⟨hb, 1, none⟩ (.slice ar (kept M xs).length cr)) w.heap.size (.slice ar (kept M xs).length cr) (kept M xs) :=
        ownsRow_setCell_other hrk (a := ⟨hb, 1, none⟩) (owns_ne hrk hOr (by decide)) _
      have h2 : (wr.setCell ⟨hb, 1, none⟩ (.slice ar (kept M xs).length cr)).cell? ⟨hb, 1, none⟩ = some (.slice ar (kept M xs).length cr) := (cell_of_blk hO2 1).trans rfl
      have hkl : ((kept M xs).length : Int) ≤ 1000 := by have := kept_le M xs; omega
      obtain ⟨j, hj⟩ : ∃ j, (kept M xs).length / 2 = j := ⟨_, rfl⟩
      have hj2 : ((kept M xs).length : Int) / 2 = (j : Int) := by omega
      have hjb : (j : Int) ≤ 1000 := by omega
      have hr0 : RemB w hb base f σ (.slice a xs.length cap) (.slice ar (kept M xs).length cr) next (kept M xs) (.int .i64 ((j : Int) - 1)) (wr.setCell ⟨hb, 1, none⟩ (.slice ar (kept M xs).length cr)) :=
        ⟨j, kept M xs, rfl, by omega, hO2, hR2, List.Perm.refl _, From.late (by omega), Fr.set1 (Fr.of_below HBE.out) hb 1 (Or.inl rfl) _⟩
      have HR0 := Lib.hid hr0
      have HKL := Lib.hid hkl
      have HOWN : Hid (∀ g, (Value.slice ar (kept M xs).length cr).ownBlock = some g → w.heap.size ≤ g) := fun g hg => (hrk.lt g hg).1
      clear hrk hOr hO2 hR2 hj hr0
      go_wp2_with fail
      go_loopw [9] (fun c wr => RemB w hb base f σ (.slice a xs.length cap) (.slice ar (kept M xs).length cr) next (kept M xs) c wr) (fun c _ => (intOf c + 1).toNat)
      case atStart => exact HR0.out
      case round =>
        obtain ⟨j', ys, rfl, hj', hO', hR', hP', hF', hfr⟩ := hrel
        have HO' := Lib.hid hO'
        have HR' := Lib.hid hR'
        have HP' := Lib.hid hP'
        have HF' := Lib.hid hF'
        have HFR := Lib.hid hfr
        clear hO' hR' hP' hF' hfr
        cases j' with
        | zero =>
          go_wp2_with fail
          go_ret
          have hlen : (l.length : Int) - ((kept M l).length : Int) = (xs.length : Int) - ((kept M xs).length : Int) := by
            rw [HP.out.length_eq, (kept_perm HP.out).length_eq]
          refine ⟨by rw [hlen]; rfl, _, ⟨HO'.out, HN.out.sub (kept_sub M l), ys, owns_base HR'.out HBS.out, HF'.out, HP'.out.trans (kept_perm HP.out)⟩, fun g hg => Or.inr (HOWN.out g hg), HFR.out⟩
        | succ k =>
          have hk1 : ((k + 1 : Nat) : Int) - 1 = (k : Int) := by omega
          have hk2 : (k : Int) ≤ 1000 := by omega
          have hk3 : (0 : Int) ≤ (k : Int) := by omega
          rw [hk1]
          have hdn := Lib.hid (down_any hb w.heap.size f σ HC.out (.slice ar (kept M xs).length cr) next ys k wr HO'.out HR'.out (by rw [HP'.out.length_eq]; have := HKL.out; omega) (by omega) HF'.out)
          clear hk1 hj'
          go_wp2_with (go_at_call 39; ((with_reducible refine (hdn.out).mono ?_); rintro e w3 ⟨rfl, hmv⟩; have HMV := Lib.hid hmv; clear hmv))
          go_roundw
          case rel =>
            obtain ⟨zs, hM, hF2⟩ := HMV.out
            refine ⟨k, zs, rfl, by omega, hM.obj, hM.row, hM.perm.trans HP'.out, hF2, HFR.out.step hM.fr (fun _ _ h => h) (fun i hi h => ?_)⟩
            have := HOWN.out i h
            omega
          case measure => simp [intOf]

end Go.Proofs.Ytlhgoklojhgfeaa
